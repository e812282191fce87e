/- StoreRooms: the plain law and the walk. -/
import Derived.Test.YtkefciacdmbidaaVb
namespace Go.Proofs.Ytkefciacdmbidaa
open Go.RowKit Go.WideMaps Go.Maps

theorem room_ok {n : Nat} (h : n ≤ 16777216) : SD.Ok ⟨[], [], n⟩ := ⟨List.Pairwise.nil, List.Pairwise.nil, fun _ h => by simp at h, fun _ h => by simp at h, fun _ h => by simp at h, h, Nat.zero_le _⟩

theorem act_limit (S : SD) (i : Nat) (c : CallM) : (S.act i c).2.limit = S.limit := by
  unfold SD.act
  split
  · simp only
    split
    · unfold SD.write
      split <;> rfl
    · rfl
  · split
    · unfold SD.sync
      split <;> rfl
    · split
      · unfold SD.remove
        split <;> rfl
      · split
        · unfold SD.rename
          split
          · split
            · rfl
            · unfold SD.remove
              split <;> rfl
          · rfl
        · split <;> rfl

/-- what is loose of one file after another -/
theorem loose_split {a : Nat × Nat} (l : List (Nat × Nat)) (i : Nat) : looseOf (a :: l) i = (if a.1 = i then a.2 else 0) + looseOf l i := by
  unfold looseOf
  rw [List.filter_cons]
  by_cases h : a.1 = i <;> simp [h]
theorem one_of {L : Files} (h : L.Pairwise (fun p q => p.2.id ≠ q.2.id)) (i n : Nat) : (L.map fun p => if i = p.2.id then n else 0).sum = if ∃ p ∈ L, p.2.id = i then n else 0 := by
  induction L with
  | nil => simp
  | cons p r ih =>
    rw [List.map_cons, List.sum_cons, ih (List.pairwise_cons.1 h).2]
    by_cases hp : i = p.2.id
    · have : ¬ ∃ q ∈ r, q.2.id = i := fun ⟨q, hq, e⟩ => (List.pairwise_cons.1 h).1 q hq (by rw [e, hp])
      rw [if_pos hp, if_neg this, if_pos ⟨p, List.mem_cons_self, hp.symm⟩]
      rfl
    · rw [if_neg hp]
      have : (∃ q ∈ p :: r, q.2.id = i) ↔ ∃ q ∈ r, q.2.id = i := by
        constructor
        · rintro ⟨q, hq, e⟩
          rcases List.mem_cons.1 hq with h1 | h1
          · subst h1
            exact absurd e.symm hp
          · exact ⟨q, h1, e⟩
        · rintro ⟨q, hq, e⟩
          exact ⟨q, List.mem_cons_of_mem _ hq, e⟩
      simp only [this, Nat.zero_add]
theorem loose_sum {L : Files} (h : L.Pairwise (fun p q => p.2.id ≠ q.2.id)) : ∀ l : List (Nat × Nat), (∀ x ∈ l, ∃ p ∈ L, p.2.id = x.1) → (L.map fun p => looseOf l p.2.id).sum = (l.map (·.2)).sum
  | [], _ => by
    have : ∀ L : Files, (L.map fun p => looseOf [] p.2.id).sum = 0 := fun L => by
      induction L with
      | nil => rfl
      | cons p r ih => rw [List.map_cons, List.sum_cons, ih]; rfl
    rw [this]
    rfl
  | a :: l, hin => by
    have ih := loose_sum h l fun x hx => hin x (List.mem_cons_of_mem _ hx)
    have h1 : (L.map fun p => looseOf (a :: l) p.2.id).sum = (L.map fun p => if a.1 = p.2.id then a.2 else 0).sum + (L.map fun p => looseOf l p.2.id).sum := by
      clear ih hin h
      induction L with
      | nil => rfl
      | cons p r ih2 =>
        rw [List.map_cons, List.sum_cons, ih2, List.map_cons, List.sum_cons, List.map_cons, List.sum_cons, loose_split]
        omega
    rw [h1, ih, one_of h, if_pos (hin a List.mem_cons_self)]
    simp
theorem loose_le {S : SD} (h : S.Ok) : S.nloose ≤ S.size := by
  have e := loose_sum h.ids S.loose h.looseIn
  unfold SD.nloose SD.size lens
  rw [← e]
  have : ∀ L : Files, (∀ p ∈ L, looseOf S.loose p.2.id ≤ p.2.data.length) → (L.map fun p => looseOf S.loose p.2.id).sum ≤ (L.map fun p => p.2.data.length).sum := fun L hL => by
    induction L with
    | nil => exact Nat.le_refl _
    | cons p r ih =>
      rw [List.map_cons, List.sum_cons, List.map_cons, List.sum_cons]
      have h1 := hL p List.mem_cons_self
      have h2 := ih fun q hq => hL q (List.mem_cons_of_mem _ hq)
      omega
  exact this _ fun p hp => by
    have := h.sums p hp
    omega

theorem lens_take {L : Files} {k : Nat} (h : k < L.length) : lens (L.take (k + 1)) = lens (L.take k) + L[k].2.data.length := by
  unfold lens
  rw [List.take_succ_eq_append_getElem h, List.map_append, List.sum_append]
  simp
theorem lens_take_le (L : Files) (k : Nat) : lens (L.take k) ≤ lens L := by
  have e : lens L = lens (L.take k) + lens (L.drop k) := by
    unfold lens
    rw [← List.sum_append, ← List.map_append, List.take_append_drop]
  omega

theorem texts_minus (w : World) (s t : ByteArray) (hs : s.size ≤ 140737488355328) (h : texts s.data.toList t.data.toList = -1) : Calls Try.prog 33 #[.string s, .string t] w fun e w' => e = .returned (.int .i64 (-1)) ∧ ∃ m, w' = w.drewN m := by
  have := texts_quiet w s t hs
  rw [h] at this
  exact this
theorem name_small {S : SD} (h : S.Ok) {k : Nat} {hk : k < S.files.length} {p : List UInt8 × SF} (e : p = S.files[k]) : (⟨p.1.toArray⟩ : ByteArray).size ≤ 140737488355328 := by
  have := (h.names p (by rw [e]; exact List.getElem_mem hk)).2
  show p.1.toArray.size ≤ _
  simp
  omega

/-- how the loop over the calls runs, the room kept -/
structure RunsIn (w0 wr : World) (d : Nat) (n : Nat) (k : Nat) : Prop where
  ds : ∃ F S, DS w0 wr d F S k ∧ S.limit = n

structure NamesIn (F : Nat → Prop) (w0 w : World) (d : Nat) (S : SD) (A : Option Addr) (n c : Nat) (k : Nat) : Prop where
  ds : DS w0 w d F S k
  names : NamesAt F w A n c S
theorem NamesIn.step {F : Nat → Prop} {w0 w w' : World} {d : Nat} {S : SD} {A : Option Addr} {n c : Nat} {k : Nat} (h : NamesIn F w0 w d S A n c k) (hb : Below w.heap.size w w') : NamesIn F w0 w' d S A n c k := ⟨h.ds.step hb, h.names.below hb⟩

set_option maxRecDepth 100000 in
set_option maxHeartbeats 2000000 in
theorem rooms_any (w : World) (room : Int) (A : Option Addr) (c : Nat) (cs : List CallM) (h : CallsAt w w.heap.size A cs) (hlen : cs.length ≤ 140737488351232) :
    Calls Try.prog 6 #[.int .i64 room, .slice A cs.length c] w (IsB w true) := by
  have Hal := Lib.hid (alive_any w)
  have H := Lib.hid h
  clear h
  go_enter Try.func6, Try.ntmps6
  go_wp2_with fail
  refine Hal.out.mono ?_
  rintro e w1 ⟨rfl, hb1⟩
  have Hg := Lib.hid (great_any w1 w.heap.size A c cs (H.out.below hb1) hlen)
  have Hb1 := Lib.hid hb1
  clear hb1 Hal
  go_wp2_with fail
  refine Hg.out.mono ?_
  rintro e w1' ⟨b, rfl, hsm, rfl⟩
  cases b with
  | true =>
    go_wp2
    go_ret
    exact ⟨rfl, Hb1.out⟩
  | false =>
  have hsm := hsm rfl
  have h80 := hsm.len
  have Hn := Lib.hid (new_any room w1)
  clear hsm Hg
  go_wp2_with fail
  refine Hn.out.mono ?_
  rintro e w2 hp
  rcases hp with ⟨h, rfl, hb2⟩ | ⟨hr0, hr1, F, d, rfl, hd1, hF, hb2⟩
  · have Hb2 := Lib.hid hb2
    clear hb2 Hn
    by_cases h0 : room < 0
    · go_wp2
      go_ret
      exact ⟨rfl, Hb1.out.trans (Hb2.out.mono Hb1.out.size)⟩
    · have h1 : 16777216 < room := by omega
      go_wp2
      go_ret
      exact ⟨rfl, Hb1.out.trans (Hb2.out.mono Hb1.out.size)⟩
  have hds : DS w w2 d F ⟨[], [], room.toNat⟩ 0 := DS.start hd1 (room_ok (by omega)) rfl rfl (fun k hk => Nat.le_trans Hb1.out.size (hF k hk)) (Hb1.out.trans (hb2.mono Hb1.out.size))
  have Hds := Lib.hid hds
  clear hd1 hF hb2 Hn hds
  go_wp2_with fail
  go_loopw [7] (fun i wr => ∃ k : Nat, k ≤ cs.length ∧ i = .int .i64 k ∧ RunsIn w wr d room.toNat k) (fun i _ => cs.length - (intOf i).toNat)
  case atStart => exact ⟨0, Nat.zero_le _, rfl, ⟨_, _, Hds.out, rfl⟩⟩
  case round =>
    obtain ⟨k, hk, rfl, hds⟩ := hrel
    obtain ⟨F1, S1, hds, hlim⟩ := hds.ds
    have Hds1 := Lib.hid hds
    have Hlim := Lib.hid hlim
    clear hds hlim Hds
    by_cases hlt : k < cs.length
    · obtain ⟨bb, off, rfl, hc⟩ := H.out.at_ (fun e => by rw [e] at hlt; simp at hlt)
      have hck := hc k hlt
      have hdo := do_in Hds1.out hck (by omega)
      have hcb := hck.below Hds1.out.below
      obtain ⟨x, hx⟩ : ∃ x, cs[k] = x := ⟨_, rfl⟩
      rw [hx] at hdo hcb
      have d0 := hcb.c0
      have d1 := hcb.c1
      have d2 := hcb.c2
      have d3 := hcb.c3
      have d4 := hcb.c4
      have Hdo := Lib.hid hdo
      unfold callV at Hdo
      clear hc hck hx hdo hcb
      go_wp2_with fail
      refine Hdo.out.mono ?_
      rintro e w3 hp
      obtain ⟨F3, i3, rfl, hds3⟩ := Hds1.out.done hp
      obtain ⟨S, hS⟩ : ∃ S, S = (S1.act i3 x).2 := ⟨_, rfl⟩
      have hlim3 : S.limit = room.toNat := by rw [hS, act_limit, Hlim.out]
      rw [← hS] at hds3
      have hnm := names_any hds3.disk hds3.ok (by have := hds3.nf; omega)
      have Hds3 := Lib.hid hds3
      have Hlim3 := Lib.hid hlim3
      have Hnm := Lib.hid hnm
      clear hp hds3 hnm hS hlim3 Hdo Hds1
      go_wp2_with fail
      refine Hnm.out.mono ?_
      rintro e w4 ⟨v, rfl, hown, hb4⟩
      obtain ⟨NA, nc, rfl, hna⟩ := NamesAt.made Hds3.out.disk hown
      have hni : NamesIn F3 w w4 d S NA S.files.length nc (k + 1) := ⟨Hds3.out.step hb4, hna⟩
      obtain ⟨n, hn⟩ : ∃ n, n = S.files.length := ⟨_, rfl⟩
      have hn80 : n ≤ 80 := by have := hni.ds.nf; omega
      rw [← hn] at hni
      rw [← hn]
      have Hni := Lib.hid hni
      have Hn := Lib.hid hn
      clear hown hb4 hna hni hn Hnm Hds3
      go_wp2_with fail
      obtain ⟨wo, rfl⟩ : ∃ wo : World, wo = wr := ⟨_, rfl⟩
      have hsz : S.size ≤ 16777216 := Nat.le_trans Hni.out.ds.ok.room Hni.out.ds.ok.limit
      go_loopw [9, 10] (fun m i wr => ∃ j : Nat, j ≤ n ∧ i = .int .i64 j ∧ m = .int .i64 (lens (S.files.take j)) ∧ NamesIn F3 w wr d S NA n nc (k + 1)) (fun _ i _ => n - (intOf i).toNat)
      case atStart => exact ⟨0, Nat.zero_le _, rfl, rfl, Hni.out⟩
      case round =>
        obtain ⟨j, hj, rfl, rfl, hni1⟩ := hrel
        have hle := lens_take_le S.files j
        have hle2 : lens S.files ≤ 16777216 := hsz
        have Hni1 := Lib.hid hni1
        clear hni1 Hni
        by_cases hjn : j < n
        · obtain ⟨g, rfl, hg, hgF, hcell⟩ := Hni1.out.names.at_ hjn
          obtain ⟨p, hp⟩ : ∃ p, p = S.files[j]'(by rw [← Hn.out]; exact hjn) := ⟨_, rfl⟩
          rw [← hp] at hcell
          have hrd := read_any Hni1.out.ds.disk Hni1.out.ds.ok ⟨p.1.toArray⟩ (name_le Hni1.out.ds.ok hp)
          have hdat := SD.data_at Hni1.out.ds.ok (k := j) (by rw [← Hn.out]; exact hjn)
          rw [← hp] at hdat
          have hp2 : p.2.data.length ≤ 16777216 := file_small Hni1.out.ds.ok hp
          have htk := lens_take (L := S.files) (k := j) (by rw [← Hn.out]; exact hjn)
          rw [← hp] at htk
          have hle3 := lens_take_le S.files (j + 1)
          have Hrd := Lib.hid hrd
          have Hdat := Lib.hid hdat
          have Hp := Lib.hid hp
          have Htk := Lib.hid htk
          have hsum : lens (S.files.take j) + p.2.data.length ≤ 16777216 := by omega
          have hwr : IntKind.i64.wrap ((lens (S.files.take j) : Int) + (p.2.data.length : Int)) = (lens (S.files.take j) : Int) + (p.2.data.length : Int) := IntWalk.i64_in _ (by omega)
          clear hrd hp hg hgF hdat hp2 htk hle3
          go_wp2_with fail
          refine Hrd.out.mono ?_
          rintro e w10 ⟨v, rfl, hrow, hb10⟩
          have is1 : (getF p.1 S.files).isSome = true := Hdat.out.2
          have is2 : (getF (ByteArray.mk p.1.toArray).data.toList S.files).isSome = true := is1
          rw [is2]
          have hni10 := Hni1.out.step hb10
          obtain ⟨B, bc, rfl, -⟩ := ownsRow_slice hrow
          rw [show S.data (ByteArray.mk p.1.toArray).data.toList = p.2.data from Hdat.out.1]
          have Hni10 := Lib.hid hni10
          clear hrow hni10 is1 is2 hb10 Hrd Hni1 hcell
          by_cases hj0 : 0 < j
          · obtain ⟨j', rfl⟩ : ∃ j', j = j' + 1 := ⟨j - 1, by omega⟩
            obtain ⟨g1, e1, -, -, hcell1⟩ := Hni10.out.names.at_ (k := j') (by omega)
            obtain ⟨g2, e2, -, -, hcell2⟩ := Hni10.out.names.at_ hjn
            cases e1
            cases e2
            have hbef := List.pairwise_iff_getElem.1 Hni10.out.ds.ok.sorted j' (j' + 1) (by rw [← Hn.out]; omega) (by rw [← Hn.out]; exact hjn) (by omega)
            have hbe := texts_before hbef
            obtain ⟨q, hq⟩ : ∃ q, q = S.files[j']'(by rw [← Hn.out]; omega) := ⟨_, rfl⟩
            rw [← hq] at hcell1 hbe
            rw [← Hp.out] at hcell2 hbe
            have htx := fun W : World => texts_minus W ⟨q.1.toArray⟩ ⟨p.1.toArray⟩ (name_small Hni10.out.ds.ok hq) hbe
            have Htx := Lib.hid htx
            have hcast : ((j' + 1 : Nat) : Int) - 1 = (j' : Int) := by omega
            have hpos : decide ((0 : Int) < ((j' + 1 : Nat) : Int)) = true := by simp
            have hb1 : (j' : Int) < (n : Int) := by omega
            clear hbef hbe hq htx
            go_wp2_with fail
            go_quiet (first | (go_at_call 33; exact Calls.quiet_of (Htx.out _)))
            go_wp2
            exact ⟨⟨j' + 1 + 1, by omega, by go_num, by rw [Htk.out]; go_num, Hni10.out.step ⟨rfl, rfl, rfl, Nat.le_refl _, fun _ _ => rfl⟩⟩, by simp [intOf]; omega⟩
          · have hj0' : decide ((0 : Int) < (j : Int)) = false := by simp; omega
            go_wp2_with fail
            go_quiet (fail)
            go_wp2
            exact ⟨⟨j + 1, by omega, by go_num, by rw [Htk.out]; go_num, Hni10.out.step ⟨rfl, rfl, rfl, Nat.le_refl _, fun _ _ => rfl⟩⟩, by simp [intOf]; omega⟩
        · have hjk : j = n := by omega
          subst hjk
          have hall : lens (S.files.take j) = S.size := by
            rw [Hn.out, List.take_length]
            rfl
          rw [hall]
          have hszc := size_any Hni1.out.ds.disk Hni1.out.ds.ok
          have hrm := Hni1.out.ds.ok.room
          have hlm := Hni1.out.ds.ok.limit
          have hlim : (S.limit : Int) = room := by rw [Hlim3.out]; omega
          have hle4 := loose_le Hni1.out.ds.ok
          have Hszc := Lib.hid hszc
          clear hszc hle hall
          go_wp2_with fail
          refine Hszc.out.mono ?_
          rintro e w5 ⟨rfl, hb5⟩
          have hni5 := Hni1.out.step hb5
          have hrmc := room_any hni5.ds.disk hni5.ds.ok
          have Hni5 := Lib.hid hni5
          have Hrmc := Lib.hid hrmc
          clear hni5 hb5 hrmc Hszc Hni1
          go_wp2_with fail
          refine Hrmc.out.mono ?_
          rintro e w6 ⟨rfl, hb6⟩
          rw [hlim]
          have hni6 := Hni5.out.step hb6
          have hrmc := room_any hni6.ds.disk hni6.ds.ok
          have Hni6 := Lib.hid hni6
          have Hrmc := Lib.hid hrmc
          clear hni6 hb6 hrmc Hni5
          go_wp2_with fail
          refine Hrmc.out.mono ?_
          rintro e w7 ⟨rfl, hb7⟩
          rw [hlim]
          have hni7 := Hni6.out.step hb7
          have hlsc := loose_any hni7.ds.disk (by omega) (by have := hni7.ds.nl; omega)
          have Hni7 := Lib.hid hni7
          have Hlsc := Lib.hid hlsc
          clear hni7 hb7 hlsc Hni6 Hrmc
          go_wp2_with fail
          refine Hlsc.out.mono ?_
          rintro e w8 ⟨rfl, hb8⟩
          have hni8 := Hni7.out.step hb8
          have Hni8 := Lib.hid hni8
          clear hni8 hb8 Hlsc Hni7
          go_wp2
          exact ⟨⟨k + 1, by omega, by go_num, ⟨_, _, Hni8.out.ds, Hlim3.out⟩⟩, by simp [intOf]; omega⟩
    · go_wp2
      go_ret
      exact ⟨rfl, Hds1.out.below⟩
end Go.Proofs.Ytkefciacdmbidaa
