/- Write: the contract of package store. Write: the walk. Write: bytes at the end of a file that is there, and of a new one. Write: bytes of a new file. Write in all cases; New. Crash, in plain words: what of the writes that don't last is kept. Crash: the walk. What a disk keeps: SD.Ok stands behind each call. What a disk keeps: SD.Ok stands behind each call. -/
import Derived.Test.YtkefciacdmbidaaGa
namespace Go.Proofs.Ytkefciacdmbidaa
open Go.RowKit Go.WideMaps Go.Maps

def addRole (role : Nat → Nat) (v : Value) (r : Nat) (k : Nat) : Nat := if role k = 0 ∧ v.ownBlock = some k then r else role k
theorem addRole_old {role : Nat → Nat} {v : Value} {r k : Nat} (h : role k ≠ 0) : addRole role v r k = role k := by unfold addRole; rw [if_neg (fun e => h e.1)]
theorem addRole_inv {role : Nat → Nat} {v : Value} {r k : Nat} (h : addRole role v r k ≠ 0) : role k ≠ 0 ∨ v.ownBlock = some k := by
  unfold addRole at h
  split at h
  · rename_i e; exact Or.inr e.2
  · exact Or.inl h
theorem addRole_own {role : Nat → Nat} {v : Value} {r k : Nat} (h : v.ownBlock = some k) (h2 : role k = 0 ∨ role k = r) : addRole role v r k = r := by
  unfold addRole
  split
  · rfl
  · rename_i e
    rcases h2 with h2 | h2
    · exact absurd ⟨h2, h⟩ e
    · exact h2

theorem DiskIn.appFile {role : Nat → Nat} {w w2 : World} {d m : Nat} {lv : Value} {S : SD} (h : DiskIn role w d m lv S) {f : SF} (h4 : role f.id = 4) {dv v1 : Value} {xs : List Int} (hdv : ∀ g, dv.ownBlock = some g → role g = 5 + f.id)
    (hblk : w.heap[f.id]? = some (.cells #[dv, .int .i64 f.safe, .bool f.stays] 103 (0, 0))) (ha : Appended w w2 dv v1 5 1 f.data.length xs.length (f.data.map (Value.int .u8) ++ xs.map (Value.int .u8))) :
    DiskIn (addRole role v1 (5 + f.id)) (w2.setCell ⟨f.id, 0, none⟩ v1) d m lv { S with files := updF f.id (fun _ => { f with data := f.data ++ xs }) S.files } := by
  have hz : (w2.setCell ⟨f.id, 0, none⟩ v1).heap.size = w2.heap.size := by simp [World.setCell]
  have hown : ∀ g, v1.ownBlock = some g → (role g = 0 ∨ role g = 5 + f.id) ∧ g < w2.heap.size ∧ g ≠ f.id := fun g hg => by
    have hl := (ha.own.lt g hg).2
    rcases ha.loc with e | e
    · rw [hg] at e
      have := hdv g e.symm
      exact ⟨Or.inr this, hl, fun e2 => by rw [e2, h4] at this; omega⟩
    · rw [hg] at e
      cases e
      refine ⟨Or.inl (Classical.byContradiction fun hne => ?_), hl, fun e2 => ?_⟩
      · have := h.lt _ hne; omega
      · have := h.lt f.id (by rw [h4]; decide); omega
  have hb : ∀ k, k < w.heap.size → k ≠ f.id → role k ≠ 5 + f.id → (w2.setCell ⟨f.id, 0, none⟩ v1).heap[k]? = w.heap[k]? := fun k hk hne h5 =>
    (Below.heap_setCell _ _ _ _ hne).trans (ha.grown.block k hk fun e => h5 (hdv k e.symm))
  refine h.setFile h4 rfl (fun _ hk => addRole_old hk) (fun k hk => ?_) hb ⟨?_, v1, fun g hg => addRole_own hg (hown g hg).1, ?_, ?_⟩
  · rw [hz]
    rcases addRole_inv hk with h1 | h1
    · exact Nat.lt_of_lt_of_le (h.lt k h1) ha.grown.size
    · exact (hown k h1).2.1
  · rw [addRole_old (by rw [h4]; decide)]; exact h4
  · have := (ha.grown.block f.id (h.lt f.id (by rw [h4]; decide)) fun e => by have := hdv _ e.symm; omega).trans hblk
    rw [setCell_same this]
    rfl
  · have := ownsRow_block (w' := w2.setCell ⟨f.id, 0, none⟩ v1) ha.own fun g hg => Below.heap_setCell _ _ _ _ (hown g hg).2.2
    rw [List.length_append, List.map_append]
    exact this

theorem DiskIn.appLoose {role : Nat → Nat} {w w5 : World} {d m : Nat} {lv v2 : Value} {S : SD} {o : Obj} (h : DiskIn role w d m lv S) {i n : Nat} (ha : Appended (w.alloc o) w5 lv v2 105 2 S.loose.length 1 (looseCells S.loose ++ [.pointer (some ⟨i, 0, none⟩), .int .i64 n])) :
    DiskIn (addRole role v2 3) (w5.setCell ⟨d, 1, none⟩ v2) d m v2 { S with loose := S.loose ++ [(i, n)] } := by
  have hz : (w5.setCell ⟨d, 1, none⟩ v2).heap.size = w5.heap.size := by simp [World.setCell]
  have hsz : w.heap.size + 1 ≤ w5.heap.size := by have := ha.grown.size; simpa using this
  have hown : ∀ g, v2.ownBlock = some g → (role g = 0 ∨ role g = 3) ∧ g < w5.heap.size ∧ g ≠ d := fun g hg => by
    have hl := (ha.own.lt g hg).2
    rcases ha.loc with e | e
    · rw [hg] at e
      have := h.rl g e.symm
      exact ⟨Or.inr this, hl, fun e2 => by rw [e2, h.rd] at this; omega⟩
    · rw [hg] at e
      simp at e
      subst e
      refine ⟨Or.inl (Classical.byContradiction fun hne => ?_), hl, fun e2 => ?_⟩
      · have := h.lt _ hne; omega
      · have := h.lt d (by rw [h.rd]; decide); omega
  have hb0 : ∀ k, k < w.heap.size → role k ≠ 3 → w5.heap[k]? = w.heap[k]? := fun k hk h3 =>
    (ha.grown.block k (by simp; omega) fun e => h3 (h.rl k e.symm)).trans (Below.heap_alloc w o k hk)
  have h1 := h.setLoose (w1 := w5) (l := S.loose) (lv' := .slice none 0 0) (by omega) hb0 (fun g hg => by simp [Value.ownBlock] at hg)
  exact {
    lt := fun k hk => by
      rw [hz]
      rcases addRole_inv hk with h1 | h1
      · have := h.lt k h1; omega
      · exact (hown k h1).2.1
    rd := (addRole_old (by rw [h.rd]; decide)).trans h.rd
    rm := (addRole_old (by rw [h.rm]; decide)).trans h.rm
    rl := fun g hg => addRole_own hg (hown g hg).1
    disk := by
      have := (hb0 d (h.lt d (by rw [h.rd]; decide)) (by rw [h.rd]; decide)).trans h.disk
      rw [setCell_same this]
      rfl
    map := h.map.block ((Below.heap_setCell _ _ _ _ (fun e => by have := h.rm; rw [show m = d from e, h.rd] at this; cases this)).trans (hb0 m (h.lt m (by rw [h.rm]; decide)) (by rw [h.rm]; decide)))
    loose := by
      have := ownsRow_block (w' := w5.setCell ⟨d, 1, none⟩ v2) ha.own fun g hg => Below.heap_setCell _ _ _ _ (hown g hg).2.2
      rw [looseCells_append, List.length_append]
      exact this
    file := fun p hp => by
      have h4 := (h.file p hp).1
      refine (h.file p hp).keep' (fun k hk => addRole_old ?_) fun k hk => ?_
      · rcases hk with rfl | hk
        · rw [h4]; decide
        · omega
      · have h0 : role k ≠ 0 ∧ role k ≠ 3 ∧ k ≠ d := by
          rcases hk with rfl | hk
          · exact ⟨by rw [h4]; decide, by rw [h4]; decide, fun e => by rw [e, h.rd] at h4; cases h4⟩
          · exact ⟨by omega, by omega, fun e => by rw [e, h.rd] at hk; omega⟩
        exact (Below.heap_setCell _ _ _ _ h0.2.2).trans (hb0 k (h.lt k h0.1) h0.2.1) }

def newRole (role : Nat → Nat) (i : Nat) (k : Nat) : Nat := if k = i then 4 else role k
theorem DiskIn.newFile {role : Nat → Nat} {w w3 : World} {d m : Nat} {lv : Value} {S : SD} (h : DiskIn role w d m lv S) {nm : List UInt8} (hmap : MapIs w3 m (sins (nm, w.heap.size) (ers nm S.ids)))
    (hg : (w.alloc (.cells #[.slice none 0 0, .int .i64 0, .bool false] 103)).grownBy w3 (some m)) : DiskIn (newRole role w.heap.size) w3 d m lv { S with files := sins (nm, ⟨w.heap.size, [], 0, false⟩) (ers nm S.files) } := by
  have hsz : w.heap.size + 1 ≤ w3.heap.size := by have := hg.size; simpa using this
  have hold : ∀ k, role k ≠ 0 → newRole role w.heap.size k = role k := fun k hk => by
    unfold newRole
    rw [if_neg (fun e => by have := h.lt k hk; omega)]
  have hb : ∀ k, k < w.heap.size → k ≠ m → w3.heap[k]? = w.heap[k]? := fun k hk hne => (hg.block k (by simp; omega) (fun e => hne (by cases e; rfl))).trans (Below.heap_alloc w _ k hk)
  have hml := h.lt m (by rw [h.rm]; decide)
  exact {
    lt := fun k hk => by
      unfold newRole at hk
      split at hk
      · omega
      · have := h.lt k hk; omega
    rd := (hold d (by rw [h.rd]; decide)).trans h.rd
    rm := (hold m (by rw [h.rm]; decide)).trans h.rm
    rl := fun g hg => (hold g (by rw [h.rl g hg]; decide)).trans (h.rl g hg)
    disk := (hb d (h.lt d (by rw [h.rd]; decide)) (fun e => by have := h.rd; rw [e, h.rm] at this; cases this)).trans h.disk
    map := by
      have e : SD.ids { S with files := sins (nm, ⟨w.heap.size, [], 0, false⟩) (ers nm S.files) } = sins (nm, w.heap.size) (ers nm S.ids) := by
        show (sins _ _).map idp = _
        rw [show idp = fun x : List UInt8 × SF => (x.1, SF.id x.2) from rfl, sins_map, ers_map]
        rfl
      rw [e]
      exact hmap
    loose := ownsRow_block h.loose fun g hg => hb g (h.lt g (by rw [h.rl g hg]; decide)) (fun e => by have := h.rl g hg; rw [e, h.rm] at this; cases this)
    file := fun p hp => by
      rcases mem_sins.1 hp with rfl | hp
      · refine ⟨by unfold newRole; rw [if_pos rfl], _, fun g hg => by simp [Value.ownBlock] at hg, (hg.block _ (by simp) (fun e => by simp at e; omega)).trans (heap_alloc_new w _), World.ownsRow_nil _ _ _ _⟩
      · have hf := h.file p (mem_ers.1 hp).1
        have h4 := hf.1
        refine hf.keep' (fun k hk => hold k ?_) fun k hk => ?_
        · rcases hk with rfl | hk
          · rw [h4]; decide
          · omega
        · rcases hk with rfl | hk
          · exact hb _ (h.lt _ (by rw [h4]; decide)) (fun e => by rw [e, h.rm] at h4; cases h4)
          · exact hb _ (h.lt _ (by omega)) (fun e => by rw [e, h.rm] at hk; omega) }
end Go.Proofs.Ytkefciacdmbidaa

namespace Go.Proofs.Ytkefciacdmbidaa
open Go.RowKit Go.WideMaps Go.Maps

def SD.write (S : SD) (i : Nat) (nm : List UInt8) (xs : List Int) : SD :=
  match getF nm S.files with
  | some f => { S with files := updF f.id (fun _ => { f with data := f.data ++ xs }) S.files, loose := S.loose ++ [(f.id, xs.length)] }
  | none => { S with files := sins (nm, ⟨i, xs, 0, false⟩) (ers nm S.files), loose := S.loose ++ [(i, xs.length)] }
def SD.werr (S : SD) (nm : List UInt8) (n : Nat) : Int := if goodName nm then (if S.limit < S.size + n then 21 else 0) else 10

def WritePost (F : Nat → Prop) (w : World) (d : Nat) (S : SD) (nm : List UInt8) (xs : List Int) (e : Ending) (w' : World) : Prop :=
  e = .returned (.int .i64 (S.werr nm xs.length)) ∧ ∃ F' i, (∀ p ∈ S.files, p.2.id ≠ i) ∧ DiskAt F' w' d (if S.werr nm xs.length = 0 then S.write i nm xs else S) ∧ Upd F F' w w'

/-- bytes that lie outside of a footprint -/
structure Outside (F : Nat → Prop) (w : World) (v : Value) (xs : List Int) : Prop where
  bytes : BytesAt w v xs
  out : ∀ ad n c, v = .slice (some ad) n c → 0 < n → ¬ F ad.block ∧ ad.block < w.heap.size

theorem Outside.same {F : Nat → Prop} {w w' : World} {v : Value} {xs : List Int} (h : Outside F w v xs) (hs : Same (fun k => ¬ F k) w w') : BytesAt w' v xs := by
  rcases h.bytes with h1 | ⟨ad, c, rfl, hc, hl, hcell, h1⟩
  · exact Or.inl h1
  · refine Or.inr ⟨ad, c, rfl, hc, hl, fun j u hj => ?_, h1⟩
    obtain ⟨h2, h3⟩ := h.out ad _ c rfl (by
      have := (List.getElem?_eq_some_iff.1 hj).1
      simp at this
      omega)
    have h4 := hcell j u hj
    have e : (ad.add j).block = ad.block := by unfold Addr.add; split <;> rfl
    rw [World.cell?_of_block (w := w) (by rw [e]; exact hs.block _ h3 h2)]
    exact h4

theorem write_bad {F : Nat → Prop} {d : Nat} {S : SD} {w : World} (hd : DiskAt F w d S) (nm : ByteArray) (hn : nm.size ≤ maxLen) (v : Value) (xs : List Int) (hr : goodName nm.data.toList = false) :
    Calls Try.prog 49 #[.pointer (some ⟨d, 0, none⟩), .string nm, v] w (WritePost F w d S nm.data.toList xs) := by
  have hright := right_any nm w hn
  rw [rightB_eq, hr] at hright
  have Hright := Lib.hid hright
  have Hr := Lib.hid hr
  have Hd := Lib.hid hd
  clear hright hr hd hn
  go_enter Try.func49, Try.ntmps49
  go_wp2_with fail
  refine Hright.out.mono ?_
  rintro e w' ⟨rfl, rfl⟩
  go_wp2
  go_ret
  have he : S.werr nm.data.toList xs.length = 10 := by unfold SD.werr; rw [Hr.out]; rfl
  have hfresh : ∀ p ∈ S.files, p.2.id ≠ w.heap.size := fun p hp e => by
    obtain ⟨role, m, lv, hd, _⟩ := Hd.out
    have := hd.lt p.2.id (by rw [(hd.file p hp).1]; decide)
    omega
  exact ⟨ret_int he.symm, F, w.heap.size, hfresh, by rw [he, if_neg (by decide)]; exact Hd.out, Upd.of_below (Below.refl _ _)⟩

theorem write_full {F : Nat → Prop} {d : Nat} {S : SD} {w : World} (hd : DiskAt F w d S) (hok : S.Ok) (nm : ByteArray) (hn : nm.size ≤ maxLen) (v : Value) (xs : List Int) (hv : ∃ A c, v = .slice A xs.length c) (hr : goodName nm.data.toList = true) (hf : S.limit < S.size + xs.length) :
    Calls Try.prog 49 #[.pointer (some ⟨d, 0, none⟩), .string nm, v] w (WritePost F w d S nm.data.toList xs) := by
  have hright := right_any nm w hn
  rw [rightB_eq, hr] at hright
  obtain ⟨A, c, rfl⟩ := hv
  have Hright := Lib.hid hright
  have Hr := Lib.hid hr
  have Hd := Lib.hid hd
  have Hroom := Lib.hid (room_any hd hok)
  have hlt : ((S.limit : Int) - S.size) < (xs.length : Int) := by omega
  have Hf := Lib.hid hf
  clear hright hr hd hn hok hf
  go_enter Try.func49, Try.ntmps49
  go_wp2_with fail
  refine Hright.out.mono ?_
  rintro e w' ⟨rfl, rfl⟩
  go_wp2_with fail
  refine Hroom.out.mono ?_
  rintro e w1 ⟨rfl, hb1⟩
  go_wp2
  go_ret
  have he : S.werr nm.data.toList xs.length = 21 := by unfold SD.werr; rw [Hr.out, if_pos rfl, if_pos Hf.out]
  have hfresh : ∀ p ∈ S.files, p.2.id ≠ w.heap.size := fun p hp e => by
    obtain ⟨role, m, lv, hd, _⟩ := Hd.out
    have := hd.lt p.2.id (by rw [(hd.file p hp).1]; decide)
    omega
  exact ⟨ret_int he.symm, F, w.heap.size, hfresh, by rw [he, if_neg (by decide)]; exact Hd.out.below hb1, Upd.of_below hb1⟩
end Go.Proofs.Ytkefciacdmbidaa

namespace Go.Proofs.Ytkefciacdmbidaa
open Go.RowKit Go.WideMaps Go.Maps

theorem src_new {W : World} {n : Nat} {a b : Value} {t : TypeId} (h : n = W.heap.size) (ha : a.oneCell' = true := by rfl) (hb : b.oneCell' = true := by rfl) : Srcs (W.alloc (.cells #[a, b] t)) (.slice (some ⟨n, 0, none⟩) 1 1) 2 1 [a, b] := by
  subst h
  refine Or.inr ⟨_, 1, rfl, Nat.le_refl _, rfl, fun j u hj => ?_, ?_⟩
  · rw [add0, cell_of (heap_alloc_new W _)]
    simpa using hj
  · intro u hu
    simp at hu
    rcases hu with rfl | rfl
    · exact ha
    · exact hb
theorem role_stays {role : Nat → Nat} {v : Value} {r k : Nat} (h : role k = 0) (hv : v.ownBlock ≠ some k) : addRole role v r k = 0 := by
  unfold addRole
  rw [if_neg (fun e => hv e.2)]
  exact h

set_option maxRecDepth 100000 in
set_option maxHeartbeats 1000000 in
theorem write_old {F : Nat → Prop} {d : Nat} {S : SD} {w : World} (hd : DiskAt F w d S) (hok : S.Ok) (nm : ByteArray) (hn : nm.size ≤ maxLen) (v : Value) (xs : List Int) (hv : Outside F w v xs) (hr : goodName nm.data.toList = true) (hf : ¬ S.limit < S.size + xs.length)
    (hlen : S.loose.length ≤ 16777216) {f : SF} (hg : getF nm.data.toList S.files = some f) :
    Calls Try.prog 49 #[.pointer (some ⟨d, 0, none⟩), .string nm, v] w (WritePost F w d S nm.data.toList xs) := by
  have hright := right_any nm w hn
  rw [rightB_eq, hr] at hright
  obtain ⟨A, c, hvs, -⟩ := Srcs.slice hv.bytes
  subst hvs
  have Hright := Lib.hid hright
  have Hr := Lib.hid hr
  have Hroom := Lib.hid (room_any hd hok)
  have hge : ¬ ((S.limit : Int) - S.size) < (xs.length : Int) := by omega
  have hmem := getF_some hg
  have hfl := file_le hok hmem
  have hlim := hok.limit
  have hroom := hok.room
  have hxl : xs.length ≤ 16777216 := by omega
  have hflen : f.data.length ≤ 16777216 := by omega
  obtain ⟨role, m, lv, hd, hF⟩ := hd
  have HF := Lib.hid hF
  have Hd := Lib.hid hd
  have Hf := Lib.hid hf
  have Hn := Lib.hid hn
  have Hg := Lib.hid hg
  have Hm := Lib.hid hmem
  have Hv := Lib.hid hv
  have Hok := Lib.hid hok
  have Hlen := Lib.hid hlen
  clear hright hr hd hn hok hf hF hg hmem hv hfl hlim hroom hlen
  go_enter Try.func49, Try.ntmps49
  go_wp2_with fail
  refine Hright.out.mono ?_
  rintro e w' ⟨rfl, rfl⟩
  go_wp2_with fail
  refine Hroom.out.mono ?_
  rintro e w1 ⟨rfl, hb1⟩
  have hd1 := Hd.out.keep hb1.size fun k hk => hb1.block k (Hd.out.lt k hk)
  have c0 := hd1.c0
  have hlk : (Instr.lookup 85 (.map (some m)) (.string nm) false).run Try.prog w1 = .ok (.pointer (some ⟨f.id, 0, none⟩)) w1 := by
    rw [SD.lookup hd1.map nm Hn.out, Hg.out]; rfl
  obtain ⟨h4, dv, hdv, hblk, hrow⟩ := hd1.file _ Hm.out
  have f0 : w1.cell? ⟨f.id, 0, none⟩ = some dv := by rw [cell_of hblk]; rfl
  have hbytes : BytesAt w1 (.slice A xs.length c) xs := Hv.out.same (Same.of_below hb1 _)
  obtain ⟨B, cb, hdvs, -⟩ := ownsRow_slice hrow
  subst hdvs
  have Hd1 := Lib.hid hd1
  have H4 := Lib.hid h4
  have Hdv := Lib.hid hdv
  have Hblk := Lib.hid hblk
  have Hrow := Lib.hid hrow
  have Hbytes := Lib.hid hbytes
  have Hb1 := Lib.hid hb1
  clear hd1 h4 hdv hblk hrow hbytes hb1
  go_wp2_with (first | (at_builtin; refine wpList_app _ rfl _ _ 32 rfl 5 1 1 _ Try.underlying32 info5 rfl (by decide) _ f.data.length (f.data.map (Value.int .u8)) rfl Hrow.out _ xs.length (xs.map (Value.int .u8)) rfl Hbytes.out ?h63 ?hby ?_))
  case h63 => unfold maxLen; omega
  case hby => omega
  intro v1 w2 ha
  have hblk2 := (ha.grown.block f.id (Hd1.out.lt f.id (by rw [H4.out]; decide)) fun e => by have := Hdv.out _ e.symm; have h4 := H4.out; omega).trans Hblk.out
  have f1 : w2.cell? ⟨f.id, 0, none⟩ = some (.slice B f.data.length cb) := by rw [cell_of hblk2]; rfl
  have z1 : w2.frozen? ⟨f.id, 0, none⟩ = false := free_of hblk2 _
  have hd3 := Hd1.out.appFile H4.out Hdv.out Hblk.out ha
  have c1 := hd3.c1
  obtain ⟨B1, cb1, hv1, -⟩ := ownsRow_slice ha.own
  subst hv1
  have Hd3 := Lib.hid hd3
  have Ha := Lib.hid ha
  clear hblk2 hd3 ha
  go_wp2_with (first | (at_builtin; refine wpList_app _ rfl _ _ 86 rfl 105 2 16 _ Try.underlying86 info105 rfl (by decide) _ S.loose.length (looseCells S.loose) rfl ?hrow2 _ 1 [.pointer (some ⟨f.id, 0, none⟩), .int .i64 xs.length] rfl ?hsrc2 ?h632 ?hby2 ?_))
  case hrow2 => exact Hd3.out.loose.alloc _
  case hsrc2 => exact src_new (by simp [World.setCell])
  case h632 => have := Hlen.out; unfold maxLen; omega
  case hby2 => have := Hlen.out; omega
  intro v2 w5 ha2
  have hdl := Hd3.out.lt d (by rw [Hd3.out.rd]; decide)
  have hblk5 := (ha2.grown.block d (by have := hdl; simp [World.setCell] at this ⊢; omega) fun e => by have h1 := Hd3.out.rl d e.symm; have h2 := Hd3.out.rd; omega).trans ((Below.heap_alloc _ _ d hdl).trans Hd3.out.disk)
  have g1 : w5.cell? ⟨d, 1, none⟩ = some lv := by rw [cell_of hblk5]; rfl
  have y1 : w5.frozen? ⟨d, 1, none⟩ = false := free_of hblk5 _
  have hd6 := Hd3.out.appLoose ha2
  obtain ⟨B2, cb2, hv2, -⟩ := ownsRow_slice ha2.own
  subst hv2
  have Hd6 := Lib.hid hd6
  have Ha2 := Lib.hid ha2
  clear hdl hblk5 hd6 ha2
  go_wp2
  go_ret
  have he : S.werr nm.data.toList xs.length = 0 := by unfold SD.werr; rw [Hr.out, if_pos rfl, if_neg Hf.out]
  have hfresh : ∀ p ∈ S.files, p.2.id ≠ w.heap.size := fun p hp e => by
    have := Hd.out.lt p.2.id (by rw [(Hd.out.file p hp).1]; decide)
    omega
  refine ⟨ret_int he.symm, fun k => addRole (addRole role (.slice B1 (f.data.length + xs.length) cb1) (5 + f.id)) (.slice B2 (S.loose.length + 1) cb2) 3 k ≠ 0, w.heap.size, hfresh, ⟨addRole (addRole role (.slice B1 (f.data.length + xs.length) cb1) (5 + f.id)) (.slice B2 (S.loose.length + 1) cb2) 3, m, .slice B2 (S.loose.length + 1) cb2, ?_, fun k => Iff.rfl⟩, ?_⟩
  · rw [if_pos he]
    unfold SD.write
    rw [Hg.out]
    exact Hd6.out
  · refine (upd_of (role := role) ?_ ?_).congr (fun k => (HF.out k).symm) (fun k => Iff.rfl)
    · have k1 : Same (fun k => role k = 0) w w1 := Same.of_below Hb1.out _
      have k2 : Same (fun k => role k = 0) w1 w2 := (Same.of_grown Ha.out.grown).mono fun k _ h e => by have := Hdv.out k e.symm; omega
      have k3 : Same (fun k => role k = 0) w2 _ := (Same.setCell w2 f.id 0 (.slice B1 (f.data.length + xs.length) cb1)).mono fun k _ h e => by have := H4.out; rw [← e] at this; omega
      have k4 : Same (fun k => role k = 0) (w2.setCell ⟨f.id, 0, none⟩ (.slice B1 (f.data.length + xs.length) cb1)) _ := Same.alloc _ (.cells #[.pointer (some ⟨f.id, 0, none⟩), .int .i64 xs.length] 105) _
      have k5 : Same (fun k => role k = 0) _ w5 := (Same.of_grown Ha2.out.grown).mono fun k _ h e => by have := Hd.out.rl k e.symm; omega
      have k6 : Same (fun k => role k = 0) w5 _ := (Same.setCell w5 d 1 (.slice B2 (S.loose.length + 1) cb2)).mono fun k _ h e => by have := Hd.out.rd; rw [← e] at this; omega
      exact ((((k1.trans k2).trans k3).trans k4).trans k5).trans k6
    · intro k hk h0
      have hw : w.heap.size ≤ w2.heap.size := Nat.le_trans Hb1.out.size Ha.out.grown.size
      refine role_stays (role_stays h0 fun e => ?_) fun e => ?_
      · rcases Ha.out.loc with h | h
        · rw [e] at h; have := Hdv.out k h.symm; omega
        · rw [e] at h; have := Hb1.out.size; simp at h; omega
      · rcases Ha2.out.loc with h | h
        · rw [e] at h; have := Hd.out.rl k h.symm; omega
        · rw [e] at h; simp [World.setCell] at h; omega
end Go.Proofs.Ytkefciacdmbidaa

namespace Go.Proofs.Ytkefciacdmbidaa
open Go.RowKit Go.WideMaps Go.Maps

theorem updF_other {i : Nat} {g : SF → SF} {L : List (List UInt8 × SF)} (h : ∀ p ∈ L, p.2.id ≠ i) : updF i g L = L := by
  unfold updF
  rw [List.map_congr_left (g := id) (fun p hp => by rw [if_neg (h p hp)]; rfl), List.map_id]
theorem updF_sins {nm : List UInt8} {f : SF} {g : SF → SF} : ∀ {L : List (List UInt8 × SF)}, (∀ p ∈ L, p.2.id ≠ f.id) → updF f.id g (sins (nm, f) L) = sins (nm, g f) L
  | [], _ => by simp [updF, sins]
  | y :: r, h => by
    have hy := h y (by simp)
    have hr := updF_sins (g := g) (nm := nm) (f := f) (L := r) (fun p hp => h p (by simp [hp]))
    unfold sins
    by_cases hb : Go.bytesBefore nm y.1 = true
    · simp only [hb, if_true]
      have := updF_other (g := g) h
      unfold updF at this ⊢
      rw [List.map_cons, this]
      simp
    · simp only [hb, Bool.false_eq_true, if_false]
      unfold updF at hr ⊢
      rw [List.map_cons, hr, if_neg hy]

set_option maxRecDepth 100000 in
set_option maxHeartbeats 1000000 in
theorem write_new {F : Nat → Prop} {d : Nat} {S : SD} {w : World} (hd : DiskAt F w d S) (hok : S.Ok) (nm : ByteArray) (hn : nm.size ≤ maxLen) (v : Value) (xs : List Int) (hv : Outside F w v xs) (hr : goodName nm.data.toList = true) (hf : ¬ S.limit < S.size + xs.length)
    (hlen : S.loose.length ≤ 16777216) (hlen2 : S.files.length ≤ 16777216) (hg : getF nm.data.toList S.files = none) :
    Calls Try.prog 49 #[.pointer (some ⟨d, 0, none⟩), .string nm, v] w (WritePost F w d S nm.data.toList xs) := by
  have hright := right_any nm w hn
  rw [rightB_eq, hr] at hright
  obtain ⟨A, c, hvs, -⟩ := Srcs.slice hv.bytes
  subst hvs
  have Hright := Lib.hid hright
  have Hr := Lib.hid hr
  have Hroom := Lib.hid (room_any hd hok)
  have hge : ¬ ((S.limit : Int) - S.size) < (xs.length : Int) := by omega
  have hlim := hok.limit
  have hroom := hok.room
  have hxl : xs.length ≤ 16777216 := by omega
  obtain ⟨role, m, lv, hd, hF⟩ := hd
  have HF := Lib.hid hF
  have Hd := Lib.hid hd
  have Hf := Lib.hid hf
  have Hn := Lib.hid hn
  have Hg := Lib.hid hg
  have Hlen2 := Lib.hid hlen2
  have Hv := Lib.hid hv
  have Hok := Lib.hid hok
  have Hlen := Lib.hid hlen
  clear hright hr hd hn hok hf hF hg hv hlim hroom hlen hlen2
  go_enter Try.func49, Try.ntmps49
  go_wp2_with fail
  refine Hright.out.mono ?_
  rintro e w' ⟨rfl, rfl⟩
  go_wp2_with fail
  refine Hroom.out.mono ?_
  rintro e w1 ⟨rfl, hb1⟩
  have hd1 := Hd.out.keep hb1.size fun k hk => hb1.block k (Hd.out.lt k hk)
  have c0 := hd1.c0
  have hlk : (Instr.lookup 85 (.map (some m)) (.string nm) false).run Try.prog w1 = .ok (.pointer none) w1 := by
    rw [SD.lookup hd1.map nm Hn.out, Hg.out]; rfl
  have c1' : (w1.alloc (.cells #[.slice none 0 0, .int .i64 0, .bool false] 103)).cell? ⟨d, 0, none⟩ = some (.map (some m)) := cell_alloc c0
  have hmap1 : MapIs (w1.alloc (.cells #[.slice none 0 0, .int .i64 0, .bool false] 103)) m S.ids := hd1.map.block (Below.heap_alloc w1 _ m (hd1.lt m (by rw [hd1.rm]; decide)))
  have hl3 : S.ids.length < maxLen := by
    have := Hlen2.out
    simp only [SD.ids, List.length_map]
    unfold maxLen
    omega
  have Hd1 := Lib.hid hd1
  have Hb1 := Lib.hid hb1
  have Hl3 := Lib.hid hl3
  clear hd1 hb1 hl3
  go_wp2_with (first | (at_mapUpdate; refine wpList_files_update rfl _ rfl _ _ _ rfl hmap1 Hl3.out nm Hn.out w1.heap.size rfl rfl rfl ?_))
  intro w3 hmap3 hg3 hs3
  have hd3 := Hd1.out.newFile hmap3 hg3
  obtain ⟨h4, dv, hdv, hblk, hrow⟩ := hd3.file (nm.data.toList, ⟨w1.heap.size, [], 0, false⟩) (mem_sins.2 (Or.inl rfl))
  have hdve : dv = .slice none 0 0 := by
    rcases hrow.2 with ⟨e, _⟩ | ⟨g, cap, cur, e, _⟩
    · exact e
    · have h1 := (hg3.block w1.heap.size (by simp) (fun e => by have := hd3.rm; simp at e; rw [← e] at this; have h5 : newRole role w1.heap.size w1.heap.size = 4 := h4; omega)).trans (heap_alloc_new w1 _)
      rw [show (⟨w1.heap.size, [], 0, false⟩ : SF).id = w1.heap.size from rfl] at hblk
      rw [h1] at hblk
      simp at hblk
      exact hblk.symm
  subst hdve
  have f0 : w3.cell? ⟨w1.heap.size, 0, none⟩ = some (.slice none 0 0) := by rw [cell_of hblk]; rfl
  have hbytes : BytesAt w3 (.slice A xs.length c) xs := Hv.out.same (((Same.of_below Hb1.out _).trans (Same.alloc _ _ _)).trans ((Same.of_grown hg3).mono fun k _ h e => by cases e; exact h ((HF.out m).2 (by rw [Hd.out.rm]; decide))))
  have Hd3a := Lib.hid hd3
  have H4 := Lib.hid h4
  have Hdv := Lib.hid hdv
  have Hblk := Lib.hid hblk
  have Hrow := Lib.hid hrow
  have Hbytes := Lib.hid hbytes
  have Hg3 := Lib.hid hg3
  have Hs3 := Lib.hid hs3
  clear hd3 h4 hdv hblk hrow hbytes hg3 hs3 hmap3
  go_wp2_with (first | (at_builtin; refine wpList_app _ rfl _ _ 32 rfl 5 1 1 _ Try.underlying32 info5 rfl (by decide) _ 0 [] rfl Hrow.out _ xs.length (xs.map (Value.int .u8)) rfl Hbytes.out ?h63 ?hby ?_))
  case h63 => unfold maxLen; omega
  case hby => omega
  intro v1 w2 ha
  have hblk2 := (ha.grown.block w1.heap.size (Hd3a.out.lt w1.heap.size (by have := H4.out; show newRole role w1.heap.size w1.heap.size ≠ 0; rw [show newRole role w1.heap.size w1.heap.size = 4 from this]; decide)) (by simp [Value.ownBlock])).trans Hblk.out
  have f1 : w2.cell? ⟨w1.heap.size, 0, none⟩ = some (.slice none 0 0) := by rw [cell_of hblk2]; rfl
  have z1 : w2.frozen? ⟨w1.heap.size, 0, none⟩ = false := free_of hblk2 _
  have hd3 := Hd3a.out.appFile (f := ⟨w1.heap.size, [], 0, false⟩) H4.out Hdv.out Hblk.out ha
  have c1 := hd3.c1
  obtain ⟨B1, cb1, hv1, -⟩ := ownsRow_slice ha.own
  rw [Nat.zero_add] at hv1
  subst hv1
  have Hd3 := Lib.hid hd3
  have Ha := Lib.hid ha
  clear hblk2 hd3 ha
  go_wp2_with (first | (at_builtin; refine wpList_app _ rfl _ _ 86 rfl 105 2 16 _ Try.underlying86 info105 rfl (by decide) _ S.loose.length (looseCells S.loose) rfl ?hrow2 _ 1 [.pointer (some ⟨w1.heap.size, 0, none⟩), .int .i64 xs.length] rfl ?hsrc2 ?h632 ?hby2 ?_))
  case hrow2 => exact Hd3.out.loose.alloc _
  case hsrc2 => exact src_new (by simp [World.setCell])
  case h632 => have := Hlen.out; unfold maxLen; omega
  case hby2 => have := Hlen.out; omega
  intro v2 w5 ha2
  have hdl := Hd3.out.lt d (by rw [Hd3.out.rd]; decide)
  have hblk5 := (ha2.grown.block d (by have := hdl; simp [World.setCell] at this ⊢; omega) fun e => by have h1 := Hd3.out.rl d e.symm; have h2 := Hd3.out.rd; omega).trans ((Below.heap_alloc _ _ d hdl).trans Hd3.out.disk)
  have g1 : w5.cell? ⟨d, 1, none⟩ = some lv := by rw [cell_of hblk5]; rfl
  have y1 : w5.frozen? ⟨d, 1, none⟩ = false := free_of hblk5 _
  have hd6 := Hd3.out.appLoose ha2
  obtain ⟨B2, cb2, hv2, -⟩ := ownsRow_slice ha2.own
  subst hv2
  have Hd6 := Lib.hid hd6
  have Ha2 := Lib.hid ha2
  clear hdl hblk5 hd6 ha2
  go_wp2
  go_ret
  have he : S.werr nm.data.toList xs.length = 0 := by unfold SD.werr; rw [Hr.out, if_pos rfl, if_neg Hf.out]
  have hfresh : ∀ p ∈ S.files, p.2.id ≠ w1.heap.size := fun p hp e => by
    have := Hd1.out.lt p.2.id (by rw [(Hd1.out.file p hp).1]; decide)
    omega
  refine ⟨ret_int he.symm, fun k => addRole (addRole (newRole role w1.heap.size) (.slice B1 xs.length cb1) (5 + w1.heap.size)) (.slice B2 (S.loose.length + 1) cb2) 3 k ≠ 0, w1.heap.size, hfresh, ⟨addRole (addRole (newRole role w1.heap.size) (.slice B1 xs.length cb1) (5 + w1.heap.size)) (.slice B2 (S.loose.length + 1) cb2) 3, m, .slice B2 (S.loose.length + 1) cb2, ?_, fun k => Iff.rfl⟩, ?_⟩
  · rw [if_pos he]
    unfold SD.write
    rw [Hg.out]
    have := Hd6.out
    have e := updF_sins (nm := nm.data.toList) (f := ⟨w1.heap.size, [], 0, false⟩) (g := fun _ => ⟨w1.heap.size, [] ++ xs, 0, false⟩) (L := ers nm.data.toList S.files) (by intro p hp; exact hfresh p (mem_ers.1 hp).1)
    rw [show (⟨w1.heap.size, [], 0, false⟩ : SF).id = w1.heap.size from rfl] at e
    rw [e] at this
    exact this
  · refine (upd_of (role := role) ?_ ?_).congr (fun k => (HF.out k).symm) (fun k => Iff.rfl)
    · have k1 : Same (fun k => role k = 0 ∧ k < w1.heap.size) w w1 := Same.of_below Hb1.out _
      have k1a : Same (fun k => role k = 0 ∧ k < w1.heap.size) w1 _ := Same.alloc _ (.cells #[.slice none 0 0, .int .i64 0, .bool false] 103) _
      have k1b : Same (fun k => role k = 0 ∧ k < w1.heap.size) _ w3 := (Same.of_grown Hg3.out).mono fun k _ h e => by cases e; have := Hd.out.rm; omega
      have k2 : Same (fun k => role k = 0 ∧ k < w1.heap.size) w3 w2 := (Same.of_grown Ha.out.grown).mono fun k _ h => by simp [Value.ownBlock]
      have k3 : Same (fun k => role k = 0 ∧ k < w1.heap.size) w2 _ := (Same.setCell w2 w1.heap.size 0 (.slice B1 xs.length cb1)).mono fun k _ h e => by omega
      have k4 : Same (fun k => role k = 0 ∧ k < w1.heap.size) (w2.setCell ⟨w1.heap.size, 0, none⟩ (.slice B1 xs.length cb1)) _ := Same.alloc _ (.cells #[.pointer (some ⟨w1.heap.size, 0, none⟩), .int .i64 xs.length] 105) _
      have k5 : Same (fun k => role k = 0 ∧ k < w1.heap.size) _ w5 := (Same.of_grown Ha2.out.grown).mono fun k _ h e => by have := Hd.out.rl k e.symm; omega
      have k6 : Same (fun k => role k = 0 ∧ k < w1.heap.size) w5 _ := (Same.setCell w5 d 1 (.slice B2 (S.loose.length + 1) cb2)).mono fun k _ h e => by have := Hd.out.rd; rw [← e] at this; omega
      exact (((((((k1.trans k1a).trans k1b).trans k2).trans k3).trans k4).trans k5).trans k6).mono fun k hk h => ⟨h, Nat.lt_of_lt_of_le hk Hb1.out.size⟩
    · intro k hk h0
      have hw : w.heap.size ≤ w1.heap.size := Hb1.out.size
      have hw3 : w1.heap.size + 1 ≤ w3.heap.size := by have := Hg3.out.size; simpa using this
      have hw2 : w3.heap.size ≤ w2.heap.size := Ha.out.grown.size
      refine role_stays (role_stays (by unfold newRole; rw [if_neg (by omega)]; exact h0) fun e => ?_) fun e => ?_
      · rcases Ha.out.loc with h | h
        · rw [e] at h; simp [Value.ownBlock] at h
        · rw [e] at h; simp at h; omega
      · rcases Ha2.out.loc with h | h
        · rw [e] at h; have := Hd.out.rl k h.symm; omega
        · rw [e] at h; simp [World.setCell] at h; omega
end Go.Proofs.Ytkefciacdmbidaa

namespace Go.Proofs.Ytkefciacdmbidaa
open Go.RowKit Go.WideMaps Go.Maps

theorem write_any {F : Nat → Prop} {d : Nat} {S : SD} {w : World} (hd : DiskAt F w d S) (hok : S.Ok) (nm : ByteArray) (hn : nm.size ≤ maxLen) (v : Value) (xs : List Int) (hv : Outside F w v xs)
    (hlen : S.loose.length ≤ 16777216) (hlen2 : S.files.length ≤ 16777216) :
    Calls Try.prog 49 #[.pointer (some ⟨d, 0, none⟩), .string nm, v] w (WritePost F w d S nm.data.toList xs) := by
  cases hr : goodName nm.data.toList with
  | false => exact write_bad hd nm hn v xs hr
  | true =>
    by_cases hf : S.limit < S.size + xs.length
    · obtain ⟨A, c, rfl, -⟩ := Srcs.slice hv.bytes
      exact write_full hd hok nm hn _ xs ⟨_, _, rfl⟩ hr hf
    · cases hg : getF nm.data.toList S.files with
      | some f => exact write_old hd hok nm hn v xs hv hr hf hlen hg
      | none => exact write_new hd hok nm hn v xs hv hr hf hlen hlen2 hg

def NewPost (w : World) (room : Int) (e : Ending) (w' : World) : Prop :=
  (¬ (0 ≤ room ∧ room ≤ 16777216) ∧ e = .returned (.tuple #[.pointer none, .int .i64 11]) ∧ Below w.heap.size w w') ∨
  (0 ≤ room ∧ room ≤ 16777216 ∧ ∃ F d, e = .returned (.tuple #[.pointer (some ⟨d, 0, none⟩), .int .i64 0]) ∧ DiskAt F w' d ⟨[], [], room.toNat⟩ ∧ (∀ k, F k → w.heap.size ≤ k) ∧ Below w.heap.size w w')

theorem new_any (room : Int) (w : World) : Calls Try.prog 13 #[.int .i64 room] w (NewPost w room) := by
  have hmm := @run_makeMap Try.prog
  by_cases h0 : room < 0
  · go_enter Try.func13, Try.ntmps13
    go_wp2
    go_ret2
    exact Or.inl ⟨by omega, rfl, Below.refl _ _⟩
  · by_cases h1 : 16777216 < room
    · go_enter Try.func13, Try.ntmps13
      go_wp2
      go_ret2
      exact Or.inl ⟨by omega, rfl, Below.refl _ _⟩
    · go_enter Try.func13, Try.ntmps13
      go_wp2
      go_ret2
      refine Or.inr ⟨by omega, by omega, fun k => k = w.heap.size ∨ k = w.heap.size + 1, w.heap.size + 1, rfl, ?_, ?_, ?_⟩
      · refine ⟨fun k => if k = w.heap.size + 1 then 1 else if k = w.heap.size then 2 else 0, w.heap.size, .slice none 0 0, ?_, ?_⟩
        · exact {
            lt := fun k hk => by
              simp only [World.size_alloc]
              split at hk
              · omega
              · split at hk
                · omega
                · exact absurd rfl hk
            rd := by simp
            rm := by rw [if_neg (by omega), if_pos rfl]
            rl := fun g hg => by simp [Value.ownBlock] at hg
            disk := by
              have := heap_alloc_new (w.alloc (.map #[] 0)) (.cells #[.map (some w.heap.size), .slice none 0 0, .int .i64 room] 88)
              rw [World.size_alloc] at this
              rw [this]
              have e : ((room.toNat : Nat) : Int) = room := by omega
              show _ = some (Obj.cells #[.map (some w.heap.size), .slice none 0 0, .int .i64 ((room.toNat : Nat) : Int)] 88 (0, 0))
              rw [e]
            map := (MapIs.made w).block (Below.heap_alloc _ _ _ (by simp))
            loose := World.ownsRow_nil _ _ _ _
            file := fun p hp => by simp at hp }
        · intro k
          show (k = w.heap.size ∨ k = w.heap.size + 1) ↔ (if k = w.heap.size + 1 then 1 else if k = w.heap.size then 2 else 0) ≠ 0
          by_cases e1 : k = w.heap.size + 1
          · simp [e1]
          · by_cases e2 : k = w.heap.size
            · simp [e2]
            · simp [e1, e2]
      · rintro k (rfl | rfl) <;> omega
      · exact ((Below.refl _ w).alloc (Nat.le_refl _) _).alloc (by simp) _
end Go.Proofs.Ytkefciacdmbidaa

namespace Go.Proofs.Ytkefciacdmbidaa
open Go.RowKit Go.WideMaps Go.Maps

abbrev Files := List (List UInt8 × SF)
def credF (x : Nat) (f : SF) : SF := { f with safe := f.safe + x, stays := f.stays || decide (0 < x) }
def credS (s : Int × Files) (p : Nat × Nat) : Int × Files := (s.1 - (min s.1.toNat p.2 : Nat), updF p.1 (credF (min s.1.toNat p.2)) s.2)
def cred (l : List (Nat × Nat)) (keep : Int) (L : Files) : Int × Files := l.foldl credS (keep, L)
def trunc (f : SF) : SF := { f with data := f.data.take f.safe }
def finish (L : Files) : Files := (L.filter fun p => p.2.stays).map fun p => (p.1, trunc p.2)
def SD.crash (S : SD) (keep : Int) : SD := { S with files := finish (cred S.loose keep S.files).2, loose := [] }

def keyOf3 (p : List UInt8 × SF) : List UInt8 × Nat × List Int := (p.1, p.2.id, p.2.data)
structure CrInv (S : SD) (L : Files) (rest : List (Nat × Nat)) : Prop where
  key : L.map keyOf3 = S.files.map keyOf3
  safe : ∀ p ∈ L, p.2.safe + looseOf rest p.2.id ≤ p.2.data.length

theorem cred_take (l : List (Nat × Nat)) (keep : Int) (L : Files) (k : Nat) (h : k < l.length) : cred (l.take (k + 1)) keep L = credS (cred (l.take k) keep L) l[k] := by
  unfold cred
  rw [List.take_succ_eq_append_getElem h, List.foldl_append]
  rfl

theorem updF_key {i : Nat} {g : SF → SF} {L : Files} (h : ∀ f : SF, (g f).id = f.id ∧ (g f).data = f.data) : (updF i g L).map keyOf3 = L.map keyOf3 := by
  unfold updF
  rw [List.map_map]
  apply List.map_congr_left
  intro p _
  by_cases e : p.2.id = i
  · simp [keyOf3, e, h p.2]
  · simp [keyOf3, e]

theorem CrInv.ids {S : SD} {L : Files} {rest : List (Nat × Nat)} (h : CrInv S L rest) (hok : S.Ok) : L.Pairwise (fun p q => p.2.id ≠ q.2.id) := by
  have h1 : (L.map keyOf3).Pairwise (fun a b => a.2.1 ≠ b.2.1) := by rw [h.key]; exact List.pairwise_map.2 hok.ids
  exact (List.pairwise_map (f := keyOf3)).1 h1
theorem CrInv.sorted {S : SD} {L : Files} {rest : List (Nat × Nat)} (h : CrInv S L rest) (hok : S.Ok) : L.Pairwise (fun p q => Go.bytesBefore p.1 q.1 = true) := by
  have h1 : (L.map keyOf3).Pairwise (fun a b => Go.bytesBefore a.1 b.1 = true) := by rw [h.key]; exact List.pairwise_map.2 hok.sorted
  exact (List.pairwise_map (f := keyOf3)).1 h1
theorem CrInv.idp {S : SD} {L : Files} {rest : List (Nat × Nat)} (h : CrInv S L rest) : L.map idp = S.ids := by
  have := congrArg (List.map fun x : List UInt8 × Nat × List Int => (x.1, x.2.1)) h.key
  rw [List.map_map, List.map_map] at this
  exact this
theorem CrInv.mem {S : SD} {L : Files} {rest : List (Nat × Nat)} (h : CrInv S L rest) {p : List UInt8 × SF} (hp : p ∈ L) : ∃ q ∈ S.files, q.1 = p.1 ∧ q.2.id = p.2.id ∧ q.2.data = p.2.data := by
  have h1 : keyOf3 p ∈ S.files.map keyOf3 := by rw [← h.key]; exact List.mem_map.2 ⟨p, hp, rfl⟩
  obtain ⟨q, hq, e⟩ := List.mem_map.1 h1
  simp only [keyOf3, Prod.mk.injEq] at e
  exact ⟨q, hq, e.1, e.2.1, e.2.2⟩
theorem CrInv.has {S : SD} {L : Files} {rest : List (Nat × Nat)} (h : CrInv S L rest) {q : List UInt8 × SF} (hq : q ∈ S.files) : ∃ p ∈ L, q.1 = p.1 ∧ q.2.id = p.2.id ∧ q.2.data = p.2.data := by
  have h1 : keyOf3 q ∈ L.map keyOf3 := by rw [h.key]; exact List.mem_map.2 ⟨q, hq, rfl⟩
  obtain ⟨p, hp, e⟩ := List.mem_map.1 h1
  simp only [keyOf3, Prod.mk.injEq] at e
  exact ⟨p, hp, e.1.symm, e.2.1.symm, e.2.2.symm⟩

theorem looseOf_cons (p : Nat × Nat) (r : List (Nat × Nat)) (i : Nat) : looseOf (p :: r) i = (if p.1 = i then p.2 else 0) + looseOf r i := by
  unfold looseOf
  rw [List.filter_cons]
  by_cases e : p.1 = i <;> simp [e]

theorem CrInv.step {S : SD} {L : Files} {p : Nat × Nat} {rest : List (Nat × Nat)} (h : CrInv S L (p :: rest)) (x : Nat) (hx : x ≤ p.2) : CrInv S (updF p.1 (credF x) L) rest where
  key := (updF_key (g := credF x) fun f => ⟨rfl, rfl⟩).trans h.key
  safe q hq := by
    obtain ⟨r, hr, rfl⟩ := List.mem_map.1 hq
    have := h.safe r hr
    rw [looseOf_cons] at this
    by_cases e : r.2.id = p.1
    · rw [if_pos e.symm] at this
      rw [if_pos e]
      show r.2.safe + x + looseOf rest r.2.id ≤ r.2.data.length
      omega
    · rw [if_neg (fun h => e h.symm)] at this
      rw [if_neg e]
      omega

theorem CrInv.start {S : SD} (hok : S.Ok) : CrInv S S.files S.loose := ⟨rfl, fun p hp => Nat.le_of_eq (hok.sums p hp)⟩

theorem updF_one {k : List UInt8} {f : SF} {g : SF → SF} {L : Files} (hids : L.Pairwise (fun p q => p.2.id ≠ q.2.id)) (hf : (k, f) ∈ L) : updF f.id (fun _ => g f) L = updF f.id g L := by
  unfold updF
  apply List.map_congr_left
  intro p hp
  by_cases e : p.2.id = f.id
  · have := ids_ne hids hp hf e
    rw [this]
  · rw [if_neg e, if_neg e]

/-! the second loop: R: the names that are still to come -/
def inR (R : List (List UInt8 × Nat)) (k : List UInt8) : Bool := R.any fun p => p.1 == k
def stateOf (L : Files) (R : List (List UInt8 × Nat)) : Files := (L.filter fun p => inR R p.1 || p.2.stays).map fun p => if inR R p.1 then p else (p.1, trunc p.2)

theorem stateOf_nil (L : Files) : stateOf L [] = finish L := by
  unfold stateOf finish
  rfl
theorem stateOf_all (L : Files) : stateOf L (L.map idp) = L := by
  have h : ∀ p ∈ L, inR (L.map idp) p.1 = true := fun p hp => by
    unfold inR
    rw [List.any_eq_true]
    exact ⟨idp p, List.mem_map.2 ⟨p, hp, rfl⟩, by simp [idp]⟩
  unfold stateOf
  rw [List.filter_eq_self.2 (fun p hp => by rw [h p hp]; rfl), List.map_congr_left (g := id) (fun p hp => by rw [h p hp]; rfl), List.map_id]
theorem inR_ers (R : List (List UInt8 × Nat)) (s k : List UInt8) : inR (ers s R) k = (inR R k && !(k == s)) := by
  unfold inR ers
  rw [List.any_filter]
  induction R with
  | nil => rfl
  | cons y r ih =>
    simp only [List.any_cons, ih]
    by_cases e : y.1 = k
    · subst e
      cases (y.1 == s) <;> simp
    · have : (y.1 == k) = false := by simpa using e
      simp [this]

theorem inR_mem {R : List (List UInt8 × Nat)} {s : List UInt8} {i : Nat} (h : (s, i) ∈ R) : inR R s = true := by
  unfold inR
  rw [List.any_eq_true]
  exact ⟨_, h, by simp⟩

theorem state_mem {L : Files} {R : List (List UInt8 × Nat)} {s : List UInt8} {f : SF} (hf : (s, f) ∈ L) (hR : inR R s = true) : (s, f) ∈ stateOf L R := by
  unfold stateOf
  refine List.mem_map.2 ⟨(s, f), List.mem_filter.2 ⟨hf, by simp [hR]⟩, ?_⟩
  simp [hR]

theorem pair_one {α β : Type} {g : α → β} {L : List α} (h : L.Pairwise (fun p q => g p ≠ g q)) {p q : α} (hp : p ∈ L) (hq : q ∈ L) (e : g p = g q) : p = q := by
  induction L with
  | nil => simp at hp
  | cons x r ih =>
    obtain ⟨h1, h2⟩ := List.pairwise_cons.1 h
    rcases List.mem_cons.1 hp with e1 | hp
    · rcases List.mem_cons.1 hq with e2 | hq
      · rw [e1, e2]
      · rw [e1] at e
        exact absurd e (h1 q hq)
    · rcases List.mem_cons.1 hq with e2 | hq
      · rw [e2] at e
        exact absurd e.symm (h1 p hp)
      · exact ih h2 hp hq

theorem state_keep {L : Files} {R : List (List UInt8 × Nat)} {s : List UInt8} {f : SF} (hids : L.Pairwise (fun p q => p.2.id ≠ q.2.id)) (hn : L.Pairwise (fun p q => p.1 ≠ q.1)) (hf : (s, f) ∈ L) (hR : inR R s = true) (hst : f.stays = true) :
    updF f.id (fun _ => trunc f) (stateOf L R) = stateOf L (ers s R) := by
  have hone : ∀ p ∈ L, p.1 = s → p = (s, f) := fun p hp e => by
    have := pair_one hn hp hf e
    exact this
  unfold updF stateOf
  rw [List.map_map, List.filter_congr (q := fun p => inR (ers s R) p.1 || p.2.stays) (fun p hp => ?_)]
  · apply List.map_congr_left
    intro p hp
    have hpL := (List.mem_filter.1 hp).1
    by_cases e : p.1 = s
    · have hpe := hone p hpL e
      subst hpe
      simp [inR_ers, hR]
    · have hne : p.2.id ≠ f.id := fun h => e (by rw [ids_ne hids hpL hf h])
      have h2 : (inR (ers s R) p.1) = inR R p.1 := by rw [inR_ers]; simp [e]
      simp only [Function.comp, h2]
      cases inR R p.1
      · simp [trunc, hne]
      · simp [hne]
  · rw [inR_ers]
    by_cases e : p.1 = s
    · have hpe := hone p hp e
      subst hpe
      rw [hst, Bool.or_true, Bool.or_true]
    · have : (p.1 == s) = false := by simpa using e
      rw [this, Bool.not_false, Bool.and_true]

theorem state_drop {L : Files} {R : List (List UInt8 × Nat)} {s : List UInt8} {f : SF} (hids : L.Pairwise (fun p q => p.2.id ≠ q.2.id)) (hn : L.Pairwise (fun p q => p.1 ≠ q.1)) (hf : (s, f) ∈ L) (hst : f.stays = false) :
    ers s (updF f.id (fun _ => trunc f) (stateOf L R)) = stateOf L (ers s R) := by
  have hone : ∀ p ∈ L, p.1 = s → p = (s, f) := fun p hp e => by
    have := pair_one hn hp hf e
    exact this
  unfold updF stateOf ers
  rw [List.map_map, List.filter_map, List.filter_filter, List.filter_congr (q := fun p => inR (List.filter (fun p => !(p.1 == s)) R) p.1 || p.2.stays) (fun p hp => ?_)]
  · apply List.map_congr_left
    intro p hp
    have hpL := (List.mem_filter.1 hp).1
    have hk : inR (List.filter (fun p => !(p.1 == s)) R) p.1 = (inR R p.1 && !(p.1 == s)) := inR_ers R s p.1
    by_cases e : p.1 = s
    · have hpe := hone p hpL e
      subst hpe
      have h3 := (List.mem_filter.1 hp).2
      rw [hk] at h3
      simp [hst] at h3
    · have hne : p.2.id ≠ f.id := fun h => e (by rw [ids_ne hids hpL hf h])
      have h2 : inR (List.filter (fun p => !(p.1 == s)) R) p.1 = inR R p.1 := by rw [hk]; simp [e]
      simp only [Function.comp, h2]
      cases inR R p.1
      · simp [trunc, hne]
      · simp [hne]
  · have hk : inR (List.filter (fun p => !(p.1 == s)) R) p.1 = (inR R p.1 && !(p.1 == s)) := inR_ers R s p.1
    rw [hk]
    by_cases e : p.1 = s
    · have hpe := hone p hp e
      subst hpe
      cases h : inR R s <;> simp [h, hst, trunc]
    · have hne : p.2.id ≠ f.id := fun h => e (by rw [ids_ne hids hp hf h])
      cases h : inR R p.1 <;> simp [h, e, trunc, hne]
end Go.Proofs.Ytkefciacdmbidaa

namespace Go.Proofs.Ytkefciacdmbidaa
open Go.RowKit Go.WideMaps Go.Maps

theorem wpList_max0 (w : World) {ops : Array Oper} {rest : List Oper} {o : Oper} {a : Act} {Q : Exit → Act → World → Prop} (hg : o.guard = none) (x : Operand)
    (hop : o.op = Op.call { callee := Callee.builtin Builtin.max, args := #[x, .const (.int .i64 0)], argTypes := #[3, 3] }) (q : Int) (t : Nat) (ht : q.toNat = t) (hx : a.eval x = .int .i64 q)
    (hK : wpList Try.prog ops Q rest (a.put o.dst (.int .i64 t)) w) : wpList Try.prog ops Q (o :: rest) a w := by
  refine wpList_plain hg fun K' hK' => ?_
  unfold Oper.wp
  simp only [execOp, hop, resolve, invoke, builtin]
  simp [hx, Result.andThen]
  refine (congrArg (fun z => K' (a.put o.dst (.int .i64 z)) w) ?_).mpr (hK' _ _ hK)
  split <;> omega

theorem wpList_minN (w : World) {ops : Array Oper} {rest : List Oper} {o : Oper} {a : Act} {Q : Exit → Act → World → Prop} (hg : o.guard = none) (x y : Operand)
    (hop : o.op = Op.call { callee := Callee.builtin Builtin.min, args := #[x, y], argTypes := #[3, 3] }) (t n m : Nat) (hm : min t n = m) (hx : a.eval x = .int .i64 t) (hy : a.eval y = .int .i64 n)
    (hK : wpList Try.prog ops Q rest (a.put o.dst (.int .i64 m)) w) : wpList Try.prog ops Q (o :: rest) a w := by
  refine wpList_plain hg fun K' hK' => ?_
  unfold Oper.wp
  simp only [execOp, hop, resolve, invoke, builtin]
  simp [hx, hy, Result.andThen]
  refine (congrArg (fun z => K' (a.put o.dst (.int .i64 z)) w) ?_).mpr (hK' _ _ hK)
  split <;> omega

structure CrAt (role : Nat → Nat) (w : World) (d m : Nat) (lv : Value) (S : SD) (keep : Int) (k : Nat) (q : Int) (wr : World) : Prop where
  val : q = (cred (S.loose.take k) keep S.files).1
  inv : CrInv S (cred (S.loose.take k) keep S.files).2 (S.loose.drop k)
  disk : DiskIn role wr d m lv { S with files := (cred (S.loose.take k) keep S.files).2 }
  same : Same (fun k => role k = 0) w wr
  lo : -9223372036854775808 ≤ q
  hi : q ≤ 9223372036854775807

theorem drop_cons {l : List (Nat × Nat)} {k : Nat} (h : k < l.length) : l.drop k = l[k] :: l.drop (k + 1) := List.drop_eq_getElem_cons h

theorem CrAt.next {role : Nat → Nat} {w : World} {d m : Nat} {lv : Value} {S : SD} {keep : Int} {k : Nat} {q : Int} {wr : World} (h : CrAt role w d m lv S keep k q wr) (hok : S.Ok) {s : List UInt8} {f : SF} {n x : Nat} (hlt : k < S.loose.length) (hin : S.loose[k] = (f.id, n))
    (hf : (s, f) ∈ (cred (S.loose.take k) keep S.files).2) (hx : min q.toNat n = x) (o : Obj) (b : Bool) (hb : b = (f.stays || decide (0 < x))) (hlo : -9223372036854775808 ≤ q - x) (hhi : q - x ≤ 9223372036854775807) :
    CrAt role w d m lv S keep (k + 1) (q - x) ((((wr.alloc o).setCell ⟨f.id, 1, none⟩ (.int .i64 ((f.safe : Int) + x))).setCell ⟨f.id, 2, none⟩ (.bool b)).drew) := by
  have hc : cred (S.loose.take (k + 1)) keep S.files = (q - x, updF f.id (credF x) (cred (S.loose.take k) keep S.files).2) := by
    rw [cred_take _ _ _ _ hlt, hin]
    unfold credS
    simp only
    rw [← h.val, hx]
  have h4 := (h.disk.file _ hf).1
  have hd := h.disk.setSafe hf ((((wr.alloc o).setCell ⟨f.id, 1, none⟩ (.int .i64 ((f.safe : Int) + x))).setCell ⟨f.id, 2, none⟩ (.bool b)).drew) (f.safe + x) b (by simp [World.setCell]) (fun k hk hne => by
      refine (Below.heap_setCell _ _ _ _ hne).trans ((Below.heap_setCell _ _ _ _ hne).trans (Below.heap_alloc wr o k hk))) (fun dv hdv => by
      have h1 := (Below.heap_alloc wr o f.id (Array.getElem?_eq_some_iff.1 hdv).1).trans hdv
      have h2 := setCell_same (o := 2) (v := .bool b) (setCell_same (o := 1) (v := .int .i64 ((f.safe : Int) + x)) h1)
      exact h2)
  refine ⟨by rw [hc], ?_, ?_, ?_, hlo, hhi⟩
  · rw [hc]
    have := h.inv
    rw [drop_cons hlt, hin] at this
    exact this.step x (by omega)
  · rw [hc]
    rw [hb] at hd
    have e := updF_one (g := credF x) (h.inv.ids hok) hf
    have e2 : (fun _ : SF => ({ f with safe := f.safe + x, stays := f.stays || decide (0 < x) } : SF)) = fun _ => credF x f := rfl
    simp only at hd
    rw [e2, e] at hd
    rw [hb]
    exact hd
  · refine h.same.trans ?_
    have k1 : Same (fun k => role k = 0) wr (wr.alloc o) := Same.alloc _ _ _
    have k2 : Same (fun k => role k = 0) (wr.alloc o) ((wr.alloc o).setCell ⟨f.id, 1, none⟩ (.int .i64 ((f.safe : Int) + x))) := (Same.setCell _ f.id 1 _).mono fun k _ h e => by rw [e, h4] at h; cases h
    have k3 := (Same.setCell ((wr.alloc o).setCell ⟨f.id, 1, none⟩ (.int .i64 ((f.safe : Int) + x))) f.id 2 (.bool b)).mono (keep' := fun k => role k = 0) fun k _ h e => by rw [e, h4] at h; cases h
    have k4 := (k1.trans k2).trans k3
    exact ⟨k4.os, k4.tape, k4.output, k4.size, k4.block⟩

theorem state_in {L : Files} {R : List (List UInt8 × Nat)} {s : List UInt8} {f : SF} (h : (s, f) ∈ stateOf L R) (hR : inR R s = true) : (s, f) ∈ L := by
  obtain ⟨p, hp, e⟩ := List.mem_map.1 h
  have hpL := (List.mem_filter.1 hp).1
  by_cases hc : inR R p.1 = true
  · rw [if_pos hc] at e
    rw [← e]
    exact hpL
  · rw [if_neg hc] at e
    simp only [Prod.mk.injEq] at e
    rw [e.1] at hc
    exact absurd hR hc

theorem RangeIs.sub {w : World} {m it : Nat} {L rem : List (List UInt8 × Nat)} (h : RangeIs w m it L rem) : ∀ p ∈ rem, p ∈ L := by
  obtain ⟨left, cnt, _, hrem⟩ := h
  intro p hp
  rw [hrem] at hp
  exact (List.mem_filter.1 hp).1

/-- the second loop under way -/
structure CrB (role : Nat → Nat) (w : World) (d m it : Nat) (S : SD) (L : Files) (R : List (List UInt8 × Nat)) (wr : World) : Prop where
  range : RangeIs wr m it ((stateOf L R).map idp) R
  disk : DiskIn role wr d m (.slice none 0 0) { S with files := stateOf L R, loose := [] }
  same : Same (fun k => role k = 0) w wr
  new : w.heap.size ≤ it
  rit : role it = 0

theorem ownsRow_take {w : World} {e : TypeId} {A : Option Addr} {n c m : Nat} {xs : List Value} (h : w.ownsRow 0 e 1 (.slice A n c) n xs) (hm : m ≤ n) : w.ownsRow 0 e 1 (.slice A m c) m (xs.take m) := by
  refine ⟨by rw [List.length_take, h.1]; omega, ?_⟩
  rcases h.2 with ⟨e1, e2⟩ | ⟨g, cap, cur, e1, h1, h2, h3, h4, h5, h6⟩
  · cases e1
    have : m = 0 := by omega
    subst this
    exact Or.inl ⟨rfl, rfl⟩
  · cases e1
    refine Or.inr ⟨g, _, cur, rfl, h1, h2, by omega, h4, h5, ?_⟩
    rw [← h6, List.take_take]
    congr 1
    omega

structure CrMid (role : Nat → Nat) (w : World) (d m it : Nat) (S : SD) (L : Files) (R : List (List UInt8 × Nat)) (s : List UInt8) (f : SF) (W : World) : Prop where
  disk : DiskIn role W d m (.slice none 0 0) { S with files := updF f.id (fun _ => trunc f) (stateOf L R), loose := [] }
  range : RangeIs W m it ((stateOf L R).map idp) (ers s R)
  same : Same (fun k => role k = 0) w W

theorem CrB.mid {role : Nat → Nat} {w : World} {d m it : Nat} {S : SD} {L : Files} {R : List (List UInt8 × Nat)} {wr w1 : World} (h : CrB role w d m it S L R wr) {s : ByteArray} {f : SF} (hst : FileStep wr w1 m it ((stateOf L R).map idp) R s f.id)
    (hfs : (s.data.toList, f) ∈ stateOf L R) (hsafe : f.safe ≤ f.data.length) {A : Option Addr} {c : Nat} (hblk : w1.heap[f.id]? = some (.cells #[.slice A f.data.length c, .int .i64 f.safe, .bool f.stays] 103 (0, 0))) :
    CrMid role w d m it S L R s.data.toList f ((w1.setCell ⟨f.id, 0, none⟩ (.slice A f.safe c)).drew) := by
  have hd1 : DiskIn role w1 d m (.slice none 0 0) { S with files := stateOf L R, loose := [] } := h.disk.keep (by rw [hst.heap]; exact Nat.le_refl _) fun k hk => hst.grown.block k (h.disk.lt k hk) (fun e => by cases e; exact hk h.rit)
  obtain ⟨h4, dv, hdv, hb, hrow⟩ := hd1.file _ hfs
  simp only at hb hrow h4 hdv
  have hdve : dv = .slice A f.data.length c := by
    rw [hblk] at hb
    simp at hb
    exact hb.symm
  subst hdve
  have hne : ∀ k, role k ≠ 4 → k ≠ f.id := fun k hk e => by rw [e] at hk; exact hk h4
  refine ⟨?_, ?_, ?_⟩
  · refine hd1.setFile (f' := trunc f) h4 rfl (fun _ _ => rfl) (fun k hk => ?_) (fun k hk hne _ => Below.heap_setCell _ _ _ _ hne) ⟨h4, .slice A f.safe c, fun g hg => hdv g (by cases A <;> exact hg), ?_, ?_⟩
    · have := hd1.lt k hk
      simp [World.setCell]
      exact this
    · exact setCell_same hblk
    · have e : (trunc f).data.length = f.safe := by simp [trunc]; omega
      rw [e]
      have := ownsRow_take hrow hsafe
      rw [← List.map_take] at this
      exact ownsRow_block this fun g hg => Below.heap_setCell _ _ _ _ (fun e => by
        have h1 := hdv g (by cases A <;> exact hg)
        rw [show g = f.id from e, h4] at h1
        omega)
  · refine hst.range.block (Below.heap_setCell _ _ _ _ (hne m (by rw [hd1.rm]; decide))) (Below.heap_setCell _ _ _ _ (hne it (by rw [h.rit]; decide)))
  · have k0 : Same (fun k => role k = 0 ∧ k < w.heap.size) w wr := h.same.mono fun k _ hk => hk.1
    have k1 : Same (fun k => role k = 0 ∧ k < w.heap.size) wr w1 := (Same.of_grown hst.grown).mono fun k _ hk e => by
      cases e
      have := h.new
      omega
    have k2 : Same (fun k => role k = 0 ∧ k < w.heap.size) w1 (w1.setCell ⟨f.id, 0, none⟩ (.slice A f.safe c)) := (Same.setCell w1 f.id 0 _).mono fun k _ hk e => by rw [e, h4] at hk; cases hk.1
    have k3 := ((k0.trans k1).trans k2).mono (keep' := fun k => role k = 0) fun k hk h => ⟨h, hk⟩
    exact ⟨k3.os, k3.tape, k3.output, k3.size, k3.block⟩

theorem CrB.keepF {role : Nat → Nat} {w : World} {d m it : Nat} {S : SD} {L : Files} {R : List (List UInt8 × Nat)} {wr W : World} {s : List UInt8} {f : SF} (h : CrB role w d m it S L R wr) (hm : CrMid role w d m it S L R s f W)
    (hids : L.Pairwise (fun p q => p.2.id ≠ q.2.id)) (hn : L.Pairwise (fun p q => p.1 ≠ q.1)) (hf : (s, f) ∈ L) (hR : inR R s = true) (hst : f.stays = true) : CrB role w d m it S L (ers s R) W := by
  have e := state_keep hids hn hf hR hst
  have e2 : (updF f.id (fun _ => trunc f) (stateOf L R)).map idp = (stateOf L R).map idp := updF_idp fun _ _ _ => rfl
  rw [e] at e2
  refine ⟨by rw [e2]; exact hm.range, ?_, hm.same, h.new, h.rit⟩
  have := hm.disk
  rw [e] at this
  exact this

theorem ers_ers {α : Type} (s : List UInt8) (R : List (List UInt8 × α)) : ers s (ers s R) = ers s R := by
  unfold ers
  rw [List.filter_filter]
  congr 1
  funext p
  cases (p.1 == s) <;> rfl

theorem CrB.dropF {role : Nat → Nat} {w : World} {d m it : Nat} {S : SD} {L : Files} {R : List (List UInt8 × Nat)} {wr W w3 : World} {s : List UInt8} {f : SF} (h : CrB role w d m it S L R wr) (hm : CrMid role w d m it S L R s f W)
    (hids : L.Pairwise (fun p q => p.2.id ≠ q.2.id)) (hn : L.Pairwise (fun p q => p.1 ≠ q.1)) (hf : (s, f) ∈ L) (hst : f.stays = false) (hr : RangeIs w3 m it (ers s ((stateOf L R).map idp)) (ers s (ers s R))) (hg : W.grownBy w3 (some m)) : CrB role w d m it S L (ers s R) w3 := by
  have e := state_drop (R := R) hids hn hf hst
  have e2 : (ers s (updF f.id (fun _ => trunc f) (stateOf L R))).map idp = ers s ((stateOf L R).map idp) := by
    rw [ers_idp, updF_idp fun _ _ _ => rfl]
  rw [e] at e2
  rw [ers_ers] at hr
  refine ⟨by rw [e2]; exact hr, ?_, hm.same.trans ((Same.of_grown hg).mono fun k _ hk e => by cases e; have := hm.disk.rm; omega), h.new, h.rit⟩
  have := hm.disk.setMap hg.size (fun k hk hne => hg.block k hk fun e => hne (by cases e; rfl)) (L := stateOf L (ers s R)) (by rw [e2]; exact hr.map) (fun p hp => hm.disk.file p (by
    rw [← e] at hp
    exact (mem_ers.1 hp).1))
  exact this

theorem rangeLeft_congr {w w' : World} {m it : Nat} (hm : w'.heap[m]? = w.heap[m]?) (hi : w'.heap[it]? = w.heap[it]?) : w'.rangeLeft m it = w.rangeLeft m it := by
  unfold World.rangeLeft
  rw [hm, hi]

def CrashPost (F : Nat → Prop) (w : World) (d : Nat) (S' : SD) (e : Ending) (w' : World) : Prop :=
  e = .returned (.tuple #[]) ∧ ∃ F', DiskAt F' w' d S' ∧ Upd F F' w w'

set_option maxRecDepth 100000 in
set_option maxHeartbeats 1000000 in
theorem crash_any {F : Nat → Prop} {d : Nat} {S : SD} {w : World} (hd : DiskAt F w d S) (hok : S.Ok) (hlen : S.loose.length ≤ 16777216) (keep : Int) (hk1 : -9223372036854775808 ≤ keep) (hk2 : keep ≤ 9223372036854775807) :
    Calls Try.prog 32 #[.pointer (some ⟨d, 0, none⟩), .int .i64 keep] w (CrashPost F w d (S.crash keep)) := by
  obtain ⟨role, m, lv, hd, hF⟩ := hd
  have c1 := hd.c1
  obtain ⟨A, c, hlv, -⟩ := ownsRow_slice hd.loose
  subst hlv
  have Hd := Lib.hid hd
  have Hok := Lib.hid hok
  have HF := Lib.hid hF
  have h0 : CrAt role w d m (.slice A S.loose.length c) S keep 0 keep w := ⟨rfl, CrInv.start hok, hd, Same.refl _ _, hk1, hk2⟩
  have H0 := Lib.hid h0
  have Hk1 := Lib.hid hk1
  have Hk2 := Lib.hid hk2
  have Hlen := Lib.hid hlen
  clear hd hok hF h0 hk1 hk2 
  go_enter Try.func32, Try.ntmps32
  go_wp2_with fail
  go_loopw [1, 14] (fun x y wr => ∃ (k : Nat) (q : Int), k ≤ S.loose.length ∧ y = .int .i64 k ∧ x = .int .i64 q ∧ CrAt role w d m (.slice A S.loose.length c) S keep k q wr) (fun _ y _ => S.loose.length - (intOf y).toNat)
  case atStart => exact ⟨0, keep, Nat.zero_le _, rfl, rfl, H0.out⟩
  case round =>
    obtain ⟨k, q, hk, rfl, rfl, hcr⟩ := hrel
    by_cases hlt : k < S.loose.length
    · obtain ⟨i, n, hin⟩ : ∃ i n, S.loose[k] = (i, n) := ⟨_, _, rfl⟩
      obtain ⟨g0, g1⟩ := looseCells_get S.loose k hlt
      rw [hin] at g0 g1
      obtain ⟨g, rfl⟩ : ∃ g, A = some ⟨g, 0, none⟩ := by
        rcases hcr.disk.loose.2 with ⟨e, e2⟩ | ⟨g, cap, cur, e, _⟩
        · have : S.loose.length = 0 := e2
          omega
        · cases e
          exact ⟨g, rfl⟩
      have hcs := hcr.disk.loose.cells (g := g) rfl
      have d0 : wr.cell? ⟨g, k * 2, none⟩ = some (.pointer (some ⟨i, 0, none⟩)) := by rw [← add0]; exact hcs _ _ g0
      have d1 : wr.cell? ⟨g, k * 2 + 1, none⟩ = some (.int .i64 n) := by rw [← add0]; exact hcs _ _ g1
      obtain ⟨q0, hq0, hq0i⟩ := Hok.out.looseIn (i, n) (by rw [← hin]; exact List.getElem_mem hlt)
      obtain ⟨⟨s, f⟩, hf, -, hfi, hfd⟩ := hcr.inv.has hq0
      obtain rfl : f.id = i := hfi.symm.trans hq0i
      have hsafe := hcr.inv.safe _ hf
      rw [drop_cons hlt, hin, looseOf_cons] at hsafe
      simp only [if_true] at hsafe
      have hdl := file_le Hok.out (k := q0.1) (f := q0.2) hq0
      rw [hfd] at hdl
      simp only at hdl hsafe
      have hr1 := Hok.out.room
      have hr2 := Hok.out.limit
      have hsb : f.safe + n ≤ 16777216 := by omega
      obtain ⟨h4, dv, hdv, hblk, hrow⟩ := hcr.disk.file _ hf
      have f1 : (wr.alloc (.cells #[.pointer (some ⟨f.id, 0, none⟩), .int .i64 n] 105)).cell? ⟨f.id, 1, none⟩ = some (.int .i64 f.safe) := cell_alloc (by rw [cell_of hblk]; rfl)
      have f2 : (wr.alloc (.cells #[.pointer (some ⟨f.id, 0, none⟩), .int .i64 n] 105)).cell? ⟨f.id, 2, none⟩ = some (.bool f.stays) := cell_alloc (by rw [cell_of hblk]; rfl)
      have z1 : (wr.alloc (.cells #[.pointer (some ⟨f.id, 0, none⟩), .int .i64 n] 105)).frozen? ⟨f.id, 1, none⟩ = false := free_of ((Below.heap_alloc wr _ f.id (Array.getElem?_eq_some_iff.1 hblk).1).trans hblk) _
      have z2 : (wr.alloc (.cells #[.pointer (some ⟨f.id, 0, none⟩), .int .i64 n] 105)).frozen? ⟨f.id, 2, none⟩ = false := free_of ((Below.heap_alloc wr _ f.id (Array.getElem?_eq_some_iff.1 hblk).1).trans hblk) _
      have hlo := hcr.lo
      have hhi := hcr.hi
      obtain ⟨t, ht⟩ : ∃ t, q.toNat = t := ⟨_, rfl⟩
      obtain ⟨x, hx⟩ : ∃ x, min t n = x := ⟨_, rfl⟩
      have hxn : x ≤ n := by omega
      have hq1 : -9223372036854775808 ≤ q - (x : Int) := by omega
      have hq2 : q - (x : Int) ≤ 9223372036854775807 := by omega
      have Hx := Lib.hid hx
      have Ht := Lib.hid ht
      have Hcr := Lib.hid hcr
      have Hf := Lib.hid hf
      have Hblk := Lib.hid hblk
      have Hin := Lib.hid hin
      have H4 := Lib.hid h4
      clear g0 g1 hcs hq0 hq0i hfi hfd hsafe hdl hr1 hr2 h4 hdv hblk hrow hx ht hcr hf hin
      cases hst : f.stays
      all_goals
        rw [hst] at f2
        have Hst := Lib.hid hst
        clear hst
        go_wp2_with (first | (refine wpList_max0 _ rfl _ rfl q t Ht.out rfl ?_) | (refine wpList_minN _ rfl _ _ rfl t n x Hx.out rfl rfl ?_))
        go_region
        go_wp2
        go_roundw
        case rel => exact ⟨k + 1, q - x, by omega, by go_num, rfl, Hcr.out.next Hok.out hlt Hin.out Hf.out (by rw [Ht.out]; exact Hx.out) _ _ (by rw [Hst.out]; simp) hq1 hq2⟩
        case measure => simp [intOf]; omega
    · have hkl : k = S.loose.length := by omega
      subst hkl
      obtain ⟨wo, rfl⟩ : ∃ wo : World, wo = wr := ⟨_, rfl⟩
      obtain ⟨L, hL⟩ : ∃ L, (cred S.loose keep S.files).2 = L := ⟨_, rfl⟩
      have hinv := hcr.inv
      have hdisk := hcr.disk
      rw [List.take_length, hL] at hinv hdisk
      rw [List.drop_length] at hinv
      have hd2 := hdisk.setLoose (w1 := wo) (l := []) (lv' := .slice none 0 0) (Nat.le_refl _) (fun _ _ _ => rfl) (fun g hg => by simp [Value.ownBlock] at hg) (World.ownsRow_nil _ _ _ _)
      have e0 := hd2.c0
      have hmap := hd2.map
      have f1 := hdisk.c1
      have z1 : wo.frozen? ⟨d, 1, none⟩ = false := free_of hdisk.disk _
      have Hcr := Lib.hid hcr
      have Hinv := Lib.hid hinv
      have Hd2 := Lib.hid hd2
      have HL := Lib.hid hL
      clear hcr hinv hdisk hd2 hL
      go_wp2_with (first | (at_range; refine wpList_files_range _ rfl _ rfl rfl hmap ?_))
      intro w0 hrg0 hg0 hs0
      have hb0 : CrB role w d m wo.heap.size S L (L.map idp) w0 := ⟨by rw [stateOf_all]; exact hrg0, by
          rw [stateOf_all]
          exact Hd2.out.keep (by rw [hs0]; simp [World.setCell]) fun k hk => hg0.block k (Hd2.out.lt k hk) (by simp), (Hcr.out.same.trans ((Same.setCell wo d 1 _).mono fun k _ h e => by rw [e, Hd.out.rd] at h; cases h)).trans ((Same.of_grown hg0).mono fun k _ _ => by simp), Hcr.out.same.size, Classical.byContradiction fun hne => by
          have := Hcr.out.disk.lt _ hne
          omega⟩
      have Hb0 := Lib.hid hb0
      clear hb0 hrg0 hg0 hs0
      go_wp2_with fail
      go_loopw [8] (fun _ wr2 => ∃ R, CrB role w d m wo.heap.size S L R wr2) (fun _ wr2 => wr2.rangeLeft m wo.heap.size)
      case atStart => exact ⟨_, Hb0.out⟩
      case round =>
        obtain ⟨R, hcb⟩ := hrel
        have hrg := hcb.range
        have Hcb := Lib.hid hcb
        clear hcb
        go_wp2_with (first | (at_next; refine wpList_files_next _ rfl _ rfl rfl hrg ?_ ?_))
        · intro hr0
          have Hr0 := Lib.hid hr0.nil
          clear hr0
          go_wp2
          go_end0
          refine ⟨rfl, F, ⟨role, m, .slice none 0 0, ?_, HF.out⟩, (upd_of (role := role) (role' := role) Hcb.out.same (fun _ _ h => h)).congr (fun k => (HF.out k).symm) (fun k => HF.out k)⟩
          have := Hcb.out.disk
          rw [Hr0.out, stateOf_nil] at this
          unfold SD.crash
          rw [HL.out]
          exact this
        · intro s i w1 hst
          have hsR := inR_mem hst.mem
          obtain ⟨f, hfs, rfl⟩ := mem_idp (hrg.sub _ hst.mem)
          have hfL := state_in hfs hsR
          have hit := Hcb.out.new
          have hd1 : DiskIn role w1 d m (.slice none 0 0) { S with files := stateOf L R, loose := [] } := Hcb.out.disk.keep (by rw [hst.heap]; exact Nat.le_refl _) fun k hk => hst.grown.block k (Hcb.out.disk.lt k hk) (fun e => by cases e; exact hk Hcb.out.rit)
          obtain ⟨h4, dv, hdv, hblk, hrow⟩ := hd1.file _ hfs
          have hsafe := Hinv.out.safe _ hfL
          simp only [looseOf, List.filter_nil, List.map_nil, List.sum_nil, Nat.add_zero] at hsafe
          simp only at hrow
          obtain ⟨A, c, hdvs, hlc⟩ := ownsRow_slice hrow
          subst hdvs
          have b0 : w1.cell? ⟨f.id, 0, none⟩ = some (.slice A f.data.length c) := by rw [cell_of hblk]; rfl
          have b1 : w1.cell? ⟨f.id, 1, none⟩ = some (.int .i64 f.safe) := by rw [cell_of hblk]; rfl
          have b2 : w1.cell? ⟨f.id, 2, none⟩ = some (.bool f.stays) := by rw [cell_of hblk]; rfl
          have y0 : w1.frozen? ⟨f.id, 0, none⟩ = false := free_of hblk _
          have hen := hst.entry
          have e1 := hd1.c0
          have hsc : f.safe ≤ c := by omega
          have hdf : d ≠ f.id := fun e => by have := hd1.rd; rw [e, h4] at this; cases this
          have Hst := Lib.hid hst
          have HsR := Lib.hid hsR
          have Hfs := Lib.hid hfs
          have HfL := Lib.hid hfL
          have Hd1 := Lib.hid hd1
          have H4 := Lib.hid h4
          have Hdv := Lib.hid hdv
          have Hblk := Lib.hid hblk
          have Hrow := Lib.hid hrow
          have Hsafe := Lib.hid hsafe
          clear hst hsR hfs hfL hd1 h4 hdv hblk hrow hsafe hrg
          have hids := Hinv.out.ids Hok.out
          have hnm := (Hinv.out.sorted Hok.out).imp before_ne
          have Hids := Lib.hid hids
          have Hnm := Lib.hid hnm
          clear hids hnm
          have hmf : m ≠ f.id := fun e => by have := Hd1.out.rm; have h2 : role f.id = 4 := H4.out; rw [← e] at h2; omega
          have hitf : wo.heap.size ≠ f.id := fun e => by have := Hcb.out.rit; have h2 : role f.id = 4 := H4.out; rw [e] at this; omega
          have Hmf := Lib.hid hmf
          have Hitf := Lib.hid hitf
          clear hmf hitf
          cases hstay : f.stays
          · rw [hstay] at b2
            have Hblk2 := Hblk.out
            rw [hstay] at Hblk2
            have Hblk2 := Lib.hid Hblk2
            have Hstay := Lib.hid hstay
            clear hstay
            go_wp2
            go_region
            have hmid := Hcb.out.mid Hst.out Hfs.out Hsafe.out (by rw [Hstay.out]; exact Hblk2.out)
            have Hmid := Lib.hid hmid
            have hrg2 := hmid.range
            clear hmid
            go_wp2_with (first | (at_delete; refine wpList_files_delete_in _ rfl _ _ rfl hrg2 s Hst.out.size rfl rfl ?_))
            intro w3 hr3 hle3 hg3 hs3
            have Hr3 := Lib.hid hr3
            have Hle3 := Lib.hid hle3
            have Hg3 := Lib.hid hg3
            clear hr3 hle3 hg3 hs3 hrg2
            go_wp2
            refine ⟨⟨_, Hcb.out.dropF Hmid.out Hids.out Hnm.out HfL.out Hstay.out Hr3.out Hg3.out⟩, ?_⟩
            exact Nat.lt_of_le_of_lt Hle3.out (Nat.lt_of_le_of_lt (Nat.le_of_eq (rangeLeft_congr (Below.heap_setCell _ _ _ _ Hmf.out) (Below.heap_setCell _ _ _ _ Hitf.out))) Hst.out.left)
          · rw [hstay] at b2
            have Hblk2 := Hblk.out
            rw [hstay] at Hblk2
            have Hblk2 := Lib.hid Hblk2
            have Hstay := Lib.hid hstay
            clear hstay
            go_wp2
            go_region
            have hmid := Hcb.out.mid Hst.out Hfs.out Hsafe.out (by rw [Hstay.out]; exact Hblk2.out)
            have Hmid := Lib.hid hmid
            have hrg2 := hmid.range
            clear hmid
            clear hrg2
            go_wp2
            refine ⟨⟨_, Hcb.out.keepF Hmid.out Hids.out Hnm.out HfL.out HsR.out Hstay.out⟩, ?_⟩
            exact Nat.lt_of_le_of_lt (Nat.le_of_eq (rangeLeft_congr (Below.heap_setCell _ _ _ _ Hmf.out) (Below.heap_setCell _ _ _ _ Hitf.out))) Hst.out.left
end Go.Proofs.Ytkefciacdmbidaa

namespace Go.Proofs.Ytkefciacdmbidaa
open Go.RowKit Go.WideMaps Go.Maps

theorem looseOf_append (a b : List (Nat × Nat)) (i : Nat) : looseOf (a ++ b) i = looseOf a i + looseOf b i := by simp [looseOf]
theorem looseOf_keep (l : List (Nat × Nat)) (i j : Nat) : looseOf (keepL i l) j = if j = i then 0 else looseOf l j := by
  unfold looseOf keepL
  rw [List.filter_filter]
  by_cases e : j = i
  · rw [if_pos e, e]
    have : (l.filter fun a => (a.1 == i) && (a.1 != i)) = [] := by
      rw [List.filter_eq_nil_iff]
      intro a _
      by_cases h : a.1 = i <;> simp [h]
    rw [this]; rfl
  · rw [if_neg e]
    congr 2
    apply List.filter_congr
    intro a _
    by_cases h : a.1 = j
    · simp [h, e]
    · simp [h]
theorem looseOf_none {l : List (Nat × Nat)} {i : Nat} (h : ∀ p ∈ l, p.1 ≠ i) : looseOf l i = 0 := by
  unfold looseOf
  rw [List.filter_eq_nil_iff.2 (fun p hp => by simpa using h p hp)]
  rfl
theorem mem_keepL {i : Nat} {l : List (Nat × Nat)} {p : Nat × Nat} : p ∈ keepL i l ↔ p ∈ l ∧ p.1 ≠ i := by simp [keepL]

theorem updF_pair {R : List UInt8 × SF → List UInt8 × SF → Prop} {i : Nat} {g : SF → SF} {L : Files} (h : L.Pairwise R) (hR : ∀ p q : List UInt8 × SF, R p q → R (if p.2.id = i then (p.1, g p.2) else p) (if q.2.id = i then (q.1, g q.2) else q)) : (updF i g L).Pairwise R := by
  unfold updF
  exact List.pairwise_map.2 (h.imp fun h => hR _ _ h)

theorem lens_updF {k : List UInt8} {f f' : SF} : ∀ {L : Files}, L.Pairwise (fun p q => p.2.id ≠ q.2.id) → (k, f) ∈ L → lens (updF f.id (fun _ => f') L) + f.data.length = lens L + f'.data.length
  | y :: r, hp, hf => by
    obtain ⟨h1, h2⟩ := List.pairwise_cons.1 hp
    rcases List.mem_cons.1 hf with e | hf
    · subst e
      have : updF f.id (fun _ => f') r = r := updF_other fun p hp e => h1 p hp e.symm
      have e : updF f.id (fun _ => f') ((k, f) :: r) = (k, f') :: updF f.id (fun _ => f') r := by simp [updF]
      rw [e, this]
      simp [lens]
      omega
    · have hne : y.2.id ≠ f.id := h1 _ hf
      have ih := lens_updF (f' := f') h2 hf
      have e : updF f.id (fun _ => f') (y :: r) = y :: updF f.id (fun _ => f') r := by simp [updF, hne]
      rw [e]
      simp [lens] at ih ⊢
      omega
theorem lens_perm {L L' : Files} (h : L.Perm L') : lens L = lens L' := (h.map _).sum_nat
theorem lens_ers_le (k : List UInt8) : ∀ L : Files, lens (ers k L) ≤ lens L
  | [] => Nat.le_refl _
  | y :: r => by
    have := lens_ers_le k r
    unfold ers lens at *
    rw [List.filter_cons]
    split
    · simp at this ⊢; omega
    · simp at this ⊢; omega

theorem sins_sorted {α : Type} {p : List UInt8 × α} : ∀ {L : List (List UInt8 × α)}, L.Pairwise (fun a b => Go.bytesBefore a.1 b.1 = true) → (∀ q ∈ L, q.1 ≠ p.1) → (sins p L).Pairwise (fun a b => Go.bytesBefore a.1 b.1 = true)
  | [], _, _ => by simp [sins]
  | y :: r, h, hne => by
    obtain ⟨h1, h2⟩ := List.pairwise_cons.1 h
    unfold sins
    by_cases hb : Go.bytesBefore p.1 y.1 = true
    · rw [if_pos hb]
      refine List.pairwise_cons.2 ⟨fun q hq => ?_, h⟩
      rcases List.mem_cons.1 hq with e | hq
      · rw [e]; exact hb
      · exact Go.WideShapes.before_trans (a := .string p.1) (b := .string y.1) (c := .string q.1) hb (h1 q hq)
    · rw [if_neg hb]
      refine List.pairwise_cons.2 ⟨fun q hq => ?_, sins_sorted h2 fun q hq => hne q (by simp [hq])⟩
      rcases mem_sins.1 hq with e | hq
      · rw [e]
        have hne' := hne y (by simp)
        rcases before_total y.1 p.1 hne' with h3 | h3
        · exact h3
        · exact absurd h3 hb
      · exact h1 q hq
where
  before_total : ∀ (a b : List UInt8), a ≠ b → Go.bytesBefore a b = true ∨ Go.bytesBefore b a = true
  | [], [], h => absurd rfl h
  | [], _ :: _, _ => Or.inl rfl
  | _ :: _, [], _ => Or.inr rfl
  | a :: r, b :: s, h => by
    simp only [Go.bytesBefore, Bool.or_eq_true, decide_eq_true_eq, Bool.and_eq_true, beq_iff_eq]
    by_cases e : a = b
    · subst e
      have hrs : r ≠ s := fun e => h (by rw [e])
      rcases before_total r s hrs with h1 | h1
      · exact Or.inl (Or.inr ⟨rfl, h1⟩)
      · exact Or.inr (Or.inr ⟨rfl, h1⟩)
    · have : a < b ∨ b < a := by
        rcases Nat.lt_trichotomy a.toNat b.toNat with h1 | h1 | h1
        · exact Or.inl h1
        · exact absurd (UInt8.toNat_inj.1 h1) e
        · exact Or.inr h1
      rcases this with h1 | h1
      · exact Or.inl (Or.inl h1)
      · exact Or.inr (Or.inl h1)
end Go.Proofs.Ytkefciacdmbidaa

namespace Go.Proofs.Ytkefciacdmbidaa
open Go.RowKit Go.WideMaps Go.Maps

theorem SD.Ok.one {S : SD} (h : S.Ok) {p q : List UInt8 × SF} (hp : p ∈ S.files) (hq : q ∈ S.files) (e : p.1 = q.1) : p = q := pair_one (g := Prod.fst) h.names_ne hp hq e

theorem pair_ids {L L' : Files} (h : L.map idp = L'.map idp) (hp : L'.Pairwise (fun p q => p.2.id ≠ q.2.id)) : L.Pairwise (fun p q => p.2.id ≠ q.2.id) := by
  have h1 : (L'.map idp).Pairwise (fun a b => a.2 ≠ b.2) := List.pairwise_map.2 hp
  rw [← h] at h1
  exact (List.pairwise_map (f := idp)).1 h1

theorem ids_sins {p : List UInt8 × SF} {L : Files} (h : L.Pairwise (fun p q => p.2.id ≠ q.2.id)) (hn : ∀ q ∈ L, q.2.id ≠ p.2.id) : (sins p L).Pairwise (fun p q => p.2.id ≠ q.2.id) := by
  have h1 : (p :: L).Pairwise (fun p q : List UInt8 × SF => p.2.id ≠ q.2.id) := List.pairwise_cons.2 ⟨fun q hq => (hn q hq).symm, h⟩
  exact ((sins_perm p L).pairwise_iff (R := fun p q : List UInt8 × SF => p.2.id ≠ q.2.id) (fun {a b} e => e.symm)).2 h1

theorem updF_sorted {i : Nat} {g : SF → SF} {L : Files} (h : L.Pairwise (fun p q => Go.bytesBefore p.1 q.1 = true)) : (updF i g L).Pairwise (fun p q => Go.bytesBefore p.1 q.1 = true) := by
  unfold updF
  refine List.pairwise_map.2 (h.imp fun {p q} hpq => ?_)
  split <;> split <;> exact hpq

theorem remove_ok {S : SD} (h : S.Ok) (nm : List UInt8) : (S.remove nm).Ok := by
  unfold SD.remove
  cases hg : getF nm S.files with
  | none => exact h
  | some f =>
    have hf := getF_some hg
    have hne : ∀ p ∈ ers nm S.files, p.2.id ≠ f.id := fun p hp e => by
      obtain ⟨h1, h2⟩ := mem_ers.1 hp
      have := ids_ne h.ids h1 hf e
      rw [this] at h2
      exact h2 rfl
    refine ⟨h.sorted.filter _, h.ids.filter _, fun p hp => h.names p (mem_ers.1 hp).1, fun p hp => ?_, fun l hl => ?_, h.limit, Nat.le_trans (lens_ers_le nm S.files) h.room⟩
    · show p.2.safe + looseOf (keepL f.id S.loose) p.2.id = _
      rw [looseOf_keep, if_neg (hne p hp)]
      exact h.sums p (mem_ers.1 hp).1
    · obtain ⟨h1, h2⟩ := mem_keepL.1 hl
      obtain ⟨q, hq, e⟩ := h.looseIn l h1
      refine ⟨q, mem_ers.2 ⟨hq, fun e2 => ?_⟩, e⟩
      have := h.one hq hf e2
      rw [this] at e
      exact h2 e.symm

theorem sync_ok {S : SD} (h : S.Ok) (nm : List UInt8) : (S.sync nm).Ok := by
  unfold SD.sync
  cases hg : getF nm S.files with
  | none => exact h
  | some f =>
    have hf := getF_some hg
    have hl := lens_updF (f' := { f with safe := f.data.length, stays := true }) h.ids hf
    show SD.Ok { S with files := updF f.id (fun _ => { f with safe := f.data.length, stays := true }) S.files, loose := keepL f.id S.loose }
    refine ⟨?_, pair_ids (L' := S.files) ?_ h.ids, fun p hp => ?_, fun p hp => ?_, fun l hl => ?_, h.limit, ?_⟩
    · exact updF_sorted (i := f.id) (g := fun _ => { f with safe := f.data.length, stays := true }) h.sorted
    · exact updF_idp (i := f.id) (g := fun _ => { f with safe := f.data.length, stays := true }) fun _ _ _ => rfl
    · obtain ⟨q, hq, rfl⟩ := List.mem_map.1 hp
      have := h.names q hq
      split <;> exact this
    · obtain ⟨q, hq, rfl⟩ := List.mem_map.1 hp
      show _ + looseOf (keepL f.id S.loose) _ = _
      rw [looseOf_keep]
      by_cases e : q.2.id = f.id
      · simp [e]
      · simp only [e, if_false]
        exact h.sums q hq
    · obtain ⟨h1, h2⟩ := mem_keepL.1 hl
      obtain ⟨q, hq, e⟩ := h.looseIn l h1
      refine ⟨q, List.mem_map.2 ⟨q, hq, ?_⟩, e⟩
      rw [if_neg (by rw [e]; exact h2)]
    · have := h.room
      simp only [SD.size] at this ⊢
      simp only at hl
      omega

theorem goodName_iff {nm : List UInt8} : goodName nm = true ↔ 1 ≤ nm.length ∧ nm.length ≤ 16 := by simp [goodName]

theorem write_ok {S : SD} (h : S.Ok) {i : Nat} (hi : ∀ p ∈ S.files, p.2.id ≠ i) {nm : List UInt8} {xs : List Int} (hw : S.werr nm xs.length = 0) : (S.write i nm xs).Ok := by
  unfold SD.werr at hw
  cases hgn : goodName nm with
  | false => rw [hgn] at hw; simp at hw
  | true =>
    rw [hgn, if_pos rfl] at hw
    have hroom : ¬ S.limit < S.size + xs.length := fun e => by rw [if_pos e] at hw; cases hw
    have hgn' := goodName_iff.1 hgn
    unfold SD.write
    cases hg : getF nm S.files with
    | some f =>
      have hf := getF_some hg
      have hl := lens_updF (f' := { f with data := f.data ++ xs }) h.ids hf
      show SD.Ok { S with files := updF f.id (fun _ => { f with data := f.data ++ xs }) S.files, loose := S.loose ++ [(f.id, xs.length)] }
      refine ⟨?_, pair_ids (L' := S.files) ?_ h.ids, fun p hp => ?_, fun p hp => ?_, fun l hl => ?_, h.limit, ?_⟩
      · exact updF_sorted (i := f.id) (g := fun _ => { f with data := f.data ++ xs }) h.sorted
      · exact updF_idp (i := f.id) (g := fun _ => { f with data := f.data ++ xs }) fun _ _ _ => rfl
      · obtain ⟨q, hq, rfl⟩ := List.mem_map.1 hp
        have := h.names q hq
        split <;> exact this
      · obtain ⟨q, hq, rfl⟩ := List.mem_map.1 hp
        show _ + looseOf (S.loose ++ [(f.id, xs.length)]) _ = _
        have hs := h.sums q hq
        rw [looseOf_append, looseOf_cons]
        by_cases e : q.2.id = f.id
        · have := ids_ne h.ids hq hf e
          subst this
          simp [looseOf] at hs ⊢
          omega
        · simp only [e, if_false]
          rw [if_neg (fun e2 => e e2.symm)]
          simp [looseOf] at hs ⊢
          omega
      · have hq : ∃ q ∈ S.files, q.2.id = l.1 := by
          rcases List.mem_append.1 hl with h1 | h1
          · exact h.looseIn l h1
          · simp at h1
            rw [h1]
            exact ⟨_, hf, rfl⟩
        obtain ⟨q, hq, e⟩ := hq
        refine ⟨_, List.mem_map.2 ⟨q, hq, rfl⟩, ?_⟩
        by_cases e2 : q.2.id = f.id
        · rw [if_pos e2]; exact e2.symm.trans e
        · rw [if_neg e2]; exact e
      · simp only [SD.size, List.length_append] at hroom hl ⊢
        omega
    | none =>
      have hne := getF_none hg
      have he : ers nm S.files = S.files := ers_none hg
      have hli : ∀ p ∈ S.loose, p.1 ≠ i := fun p hp e => by
        obtain ⟨q, hq, e2⟩ := h.looseIn p hp
        exact hi q hq (e2.trans e)
      rw [he]
      refine ⟨sins_sorted h.sorted hne, ?_, fun p hp => ?_, fun p hp => ?_, fun l hl => ?_, h.limit, ?_⟩
      · exact ids_sins h.ids hi
      · rcases mem_sins.1 hp with e | hp
        · rw [e]; exact hgn'
        · exact h.names p hp
      · show _ + looseOf (S.loose ++ [(i, xs.length)]) _ = _
        rw [looseOf_append, looseOf_cons]
        rcases mem_sins.1 hp with e | hp
        · rw [e]
          rw [looseOf_none hli]
          simp [looseOf]
        · have hs := h.sums p hp
          rw [if_neg (fun e => hi p hp e.symm)]
          simp [looseOf] at hs ⊢
          omega
      · rcases List.mem_append.1 hl with h1 | h1
        · obtain ⟨q, hq, e⟩ := h.looseIn l h1
          exact ⟨q, mem_sins.2 (Or.inr hq), e⟩
        · simp at h1
          rw [h1]
          exact ⟨_, mem_sins.2 (Or.inl rfl), rfl⟩
      · have e := lens_perm (sins_perm (nm, (⟨i, xs, 0, false⟩ : SF)) S.files)
        simp only [SD.size] at hroom ⊢
        rw [e]
        simp [lens] at hroom ⊢
        omega

theorem ers_comm {α : Type} (a b : List UInt8) (L : List (List UInt8 × α)) : ers a (ers b L) = ers b (ers a L) := by
  unfold ers
  rw [List.filter_filter, List.filter_filter]
  congr 1
  funext p
  rw [Bool.and_comm]

theorem rename_eq {S : SD} {a b : List UInt8} {f : SF} (hgn : goodName b = true) (hg : getF a S.files = some f) :
    (S.rename a b).2 = { files := sins (b, { f with stays := true }) (ers b (ers a S.files)), loose := (match getF b (ers a S.files) with | none => S.loose | some g => keepL g.id S.loose), limit := S.limit } := by
  unfold SD.rename
  rw [hgn, if_pos rfl, hg]
  unfold SD.remove
  simp only
  cases hb : getF b (ers a S.files) with
  | none => rfl
  | some g => simp only [ers_ers]

theorem rename_ok {S : SD} (h : S.Ok) (a b : List UInt8) : (S.rename a b).2.Ok := by
  cases hgn : goodName b with
  | false =>
    unfold SD.rename
    rw [hgn]
    exact h
  | true =>
    have hgn' := goodName_iff.1 hgn
    cases hg : getF a S.files with
    | none =>
      unfold SD.rename
      rw [hgn, hg]
      exact h
    | some f =>
      rw [rename_eq hgn hg]
      have hf := getF_some hg
      have hsub : ∀ p ∈ ers b (ers a S.files), p ∈ S.files ∧ p.1 ≠ a ∧ p.1 ≠ b := fun p hp => ⟨(mem_ers.1 (mem_ers.1 hp).1).1, (mem_ers.1 (mem_ers.1 hp).1).2, (mem_ers.1 hp).2⟩
      have hidf : ∀ p ∈ S.files, p.1 ≠ a → p.2.id ≠ f.id := fun p hp hne e => by
        have := ids_ne h.ids hp hf e
        rw [this] at hne
        exact hne rfl
      obtain ⟨l', hl', hlo, hin⟩ : ∃ l', (match getF b (ers a S.files) with | none => S.loose | some g => keepL g.id S.loose) = l' ∧ (∀ p ∈ S.files, p.1 = a ∨ p.1 ≠ b → looseOf l' p.2.id = looseOf S.loose p.2.id) ∧ (∀ l ∈ l', l ∈ S.loose ∧ ∀ q ∈ S.files, q.2.id = l.1 → q.1 = a ∨ q.1 ≠ b) := by
        cases hb : getF b (ers a S.files) with
        | none =>
          refine ⟨_, rfl, fun _ _ _ => rfl, fun l hl => ⟨hl, fun q hq _ => ?_⟩⟩
          by_cases e : q.1 = a
          · exact Or.inl e
          · exact Or.inr (getF_none hb q (mem_ers.2 ⟨hq, e⟩))
        | some g =>
          have hgm := mem_ers.1 (getF_some hb)
          refine ⟨_, rfl, fun p hp hpn => ?_, fun l hl => ⟨(mem_keepL.1 hl).1, fun q hq e => ?_⟩⟩
          · rw [looseOf_keep, if_neg]
            intro e
            have := ids_ne h.ids hp hgm.1 e
            rw [this] at hpn
            rcases hpn with h1 | h1
            · exact hgm.2 h1
            · exact h1 rfl
          · by_cases e2 : q.1 = b
            · have := h.one hq hgm.1 e2
              rw [this] at e
              exact absurd e.symm (mem_keepL.1 hl).2
            · exact Or.inr e2
      rw [hl']
      refine ⟨sins_sorted ((h.sorted.filter _).filter _) (fun q hq => (hsub q hq).2.2), ?_, fun p hp => ?_, fun p hp => ?_, fun l hl => ?_, h.limit, ?_⟩
      · exact ids_sins ((h.ids.filter _).filter _) fun p hp => hidf p (hsub p hp).1 (hsub p hp).2.1
      · rcases mem_sins.1 hp with e | hp
        · rw [e]; exact hgn'
        · exact h.names p (hsub p hp).1
      · show _ + looseOf l' _ = _
        rcases mem_sins.1 hp with e | hp
        · rw [e]
          show f.safe + looseOf l' f.id = f.data.length
          rw [hlo _ hf (Or.inl rfl)]
          exact h.sums _ hf
        · rw [hlo p (hsub p hp).1 (Or.inr (hsub p hp).2.2)]
          exact h.sums p (hsub p hp).1
      · obtain ⟨h1, h2⟩ := hin l hl
        obtain ⟨q, hq, e⟩ := h.looseIn l h1
        by_cases e2 : q.1 = a
        · have := h.one hq hf e2
          refine ⟨(b, { f with stays := true }), mem_sins.2 (Or.inl rfl), ?_⟩
          rw [this] at e
          exact e
        · rcases h2 q hq e with h3 | h3
          · exact absurd h3 e2
          · exact ⟨q, mem_sins.2 (Or.inr (mem_ers.2 ⟨mem_ers.2 ⟨hq, e2⟩, h3⟩)), e⟩
      · have e := lens_perm (sins_perm (b, ({ f with stays := true } : SF)) (ers b (ers a S.files)))
        have e1 := lens_ers h.names_ne hf
        have e2 := lens_ers_le b (ers a S.files)
        have e3 := h.room
        simp only [SD.size] at e3 ⊢
        rw [e]
        simp [lens] at e1 e2 e3 ⊢
        omega

/-! Crash -/
theorem finish_mem {L : Files} {p : List UInt8 × SF} (h : p ∈ finish L) : ∃ q ∈ L, q.2.stays = true ∧ p = (q.1, trunc q.2) := by
  obtain ⟨q, hq, e⟩ := List.mem_map.1 h
  have := List.mem_filter.1 hq
  exact ⟨q, this.1, this.2, e.symm⟩

theorem cred_inv {S : SD} (h : S.Ok) (keep : Int) : CrInv S (cred S.loose keep S.files).2 [] := by
  have : ∀ k, k ≤ S.loose.length → CrInv S (cred (S.loose.take k) keep S.files).2 (S.loose.drop k) := by
    intro k
    induction k with
    | zero => intro _; exact CrInv.start h
    | succ k ih =>
      intro hk
      have h1 := ih (by omega)
      rw [drop_cons (by omega)] at h1
      rw [cred_take _ _ _ _ (by omega)]
      exact h1.step _ (by omega)
  have h1 := this S.loose.length (Nat.le_refl _)
  rw [List.take_length, List.drop_length] at h1
  exact h1

theorem lens_finish : ∀ L : Files, lens (finish L) ≤ lens L
  | [] => Nat.le_refl _
  | y :: r => by
    have := lens_finish r
    unfold finish at *
    rw [List.filter_cons]
    split
    · simp [lens, trunc] at this ⊢; omega
    · simp [lens] at this ⊢; omega
theorem lens_key {L L' : Files} (h : L.map keyOf3 = L'.map keyOf3) : lens L = lens L' := by
  have := congrArg (fun l : List (List UInt8 × Nat × List Int) => (l.map fun x => x.2.2.length).sum) h
  simp only [List.map_map] at this
  exact this

theorem crash_ok {S : SD} (h : S.Ok) (keep : Int) : (S.crash keep).Ok := by
  have hinv := cred_inv h keep
  have hsafe : ∀ q ∈ (cred S.loose keep S.files).2, q.2.safe ≤ q.2.data.length := fun q hq => Nat.le_trans (Nat.le_add_right _ _) (hinv.safe q hq)
  unfold SD.crash
  obtain ⟨L, hL⟩ : ∃ L, (cred S.loose keep S.files).2 = L := ⟨_, rfl⟩
  rw [hL] at hinv hsafe ⊢
  refine ⟨?_, ?_, fun p hp => ?_, fun p hp => ?_, fun l hl => by simp at hl, h.limit, ?_⟩
  · exact List.pairwise_map.2 ((hinv.sorted h).filter _)
  · exact List.pairwise_map.2 ((hinv.ids h).filter _)
  · obtain ⟨q, hq, _, rfl⟩ := finish_mem hp
    obtain ⟨r, hr, e, _⟩ := hinv.mem hq
    rw [← e]
    exact h.names r hr
  · obtain ⟨q, hq, _, rfl⟩ := finish_mem hp
    have := hsafe q hq
    simp [looseOf, trunc]
    omega
  · have h1 := lens_finish L
    have h2 := lens_key hinv.key
    have h3 := h.room
    simp only [SD.size] at h3 ⊢
    omega
end Go.Proofs.Ytkefciacdmbidaa
