/- Sync and Remove: contracts of package store. -/
import Derived.Test.YtkefciacdmbidaaSg
namespace Go.Proofs.Ytkefciacdmbidaa
open Go.RowKit Go.WideMaps Go.Maps

def updF (i : Nat) (g : SF → SF) (L : List (List UInt8 × SF)) : List (List UInt8 × SF) := L.map fun p => if p.2.id = i then (p.1, g p.2) else p

theorem updF_idp {i : Nat} {g : SF → SF} {L : List (List UInt8 × SF)} (h : ∀ p ∈ L, p.2.id = i → (g p.2).id = i) : (updF i g L).map idp = L.map idp := by
  unfold updF
  rw [List.map_map]
  apply List.map_congr_left
  intro p hp
  by_cases e : p.2.id = i
  · simp [idp, e, h p hp e]
  · simp [idp, e]

theorem FileAt.keep' {role role' : Nat → Nat} {w w' : World} {f : SF} (h : FileAt role w f) (hr : ∀ k, k = f.id ∨ role k = 5 + f.id → role' k = role k) (hb : ∀ k, k = f.id ∨ role k = 5 + f.id → w'.heap[k]? = w.heap[k]?) : FileAt role' w' f := by
  obtain ⟨h1, dv, h2, h3, h4⟩ := h
  refine ⟨(hr _ (Or.inl rfl)).trans h1, dv, fun g hg => (hr _ (Or.inr (h2 g hg))).trans (h2 g hg), (hb _ (Or.inl rfl)).trans h3, ownsRow_block h4 fun g hg => hb g (Or.inr (h2 g hg))⟩

theorem DiskIn.setFile {role role' : Nat → Nat} {w w' : World} {d m : Nat} {lv : Value} {S : SD} (h : DiskIn role w d m lv S) {f f' : SF} (hf : role f.id = 4) (hid : f'.id = f.id)
    (hr : ∀ k, role k ≠ 0 → role' k = role k) (hlt : ∀ k, role' k ≠ 0 → k < w'.heap.size) (hb : ∀ k, k < w.heap.size → k ≠ f.id → role k ≠ 5 + f.id → w'.heap[k]? = w.heap[k]?) (hfile : FileAt role' w' f') :
    DiskIn role' w' d m lv { S with files := updF f.id (fun _ => f') S.files } where
  lt := hlt
  rd := (hr d (by rw [h.rd]; decide)).trans h.rd
  rm := (hr m (by rw [h.rm]; decide)).trans h.rm
  rl g hg := (hr g (by rw [h.rl g hg]; decide)).trans (h.rl g hg)
  disk := (hb d (h.lt d (by rw [h.rd]; decide)) (fun e => by rw [← e, h.rd] at hf; cases hf) (by rw [h.rd]; omega)).trans h.disk
  map := by
    have e : SD.ids { S with files := updF f.id (fun _ => f') S.files } = S.ids := updF_idp (g := fun _ => f') fun _ _ _ => hid
    rw [e]
    exact h.map.block (hb m (h.lt m (by rw [h.rm]; decide)) (fun e => by rw [← e, h.rm] at hf; cases hf) (by rw [h.rm]; omega))
  loose := ownsRow_block h.loose fun g hg => hb g (h.lt g (by rw [h.rl g hg]; decide)) (fun e => by rw [← e, h.rl g hg] at hf; cases hf) (by rw [h.rl g hg]; omega)
  file p hp := by
    obtain ⟨q, hq, rfl⟩ := List.mem_map.1 hp
    by_cases e : q.2.id = f.id
    · simp only [e, if_true]
      exact hfile
    · simp only [e, if_false]
      have hq4 := h.file q hq
      refine hq4.keep' (fun k hk => hr k ?_) (fun k hk => ?_)
      · rcases hk with rfl | hk
        · rw [hq4.1]; decide
        · omega
      · rcases hk with rfl | hk
        · exact hb _ (h.lt _ (by rw [hq4.1]; decide)) e (by rw [hq4.1]; omega)
        · exact hb _ (h.lt _ (by omega)) (fun e2 => by rw [e2] at hk; omega) (by omega)

/-- only the block of a file has turned: its safe part, and whether it stays -/
theorem DiskIn.setSafe {role : Nat → Nat} {w : World} {d m : Nat} {lv : Value} {S : SD} (h : DiskIn role w d m lv S) {k : List UInt8} {f : SF} (hf : (k, f) ∈ S.files) (w' : World) (n : Nat) (b : Bool) (hs : w.heap.size ≤ w'.heap.size)
    (hb : ∀ k, k < w.heap.size → k ≠ f.id → w'.heap[k]? = w.heap[k]?) (hc : ∀ dv, w.heap[f.id]? = some (.cells #[dv, .int .i64 f.safe, .bool f.stays] 103 (0, 0)) → w'.heap[f.id]? = some (.cells #[dv, .int .i64 n, .bool b] 103 (0, 0))) :
    DiskIn role w' d m lv { S with files := updF f.id (fun _ => { f with safe := n, stays := b }) S.files } := by
  obtain ⟨h1, dv, h2, h3, h4⟩ := h.file _ hf
  refine h.setFile h1 rfl (fun _ _ => rfl) (fun k hk => Nat.lt_of_lt_of_le (h.lt k hk) hs) (fun k hk hne _ => hb k hk hne) ⟨h1, dv, h2, hc dv h3, ownsRow_block h4 fun g hg => hb g (h.lt g (by rw [h2 g hg]; omega)) (fun e => by have := h2 g hg; rw [e, h1] at this; omega)⟩

def SD.sync (S : SD) (nm : List UInt8) : SD :=
  match getF nm S.files with
  | none => S
  | some f => { S with files := updF f.id (fun _ => { f with safe := f.data.length, stays := true }) S.files, loose := keepL f.id S.loose }

def errOf (S : SD) (nm : List UInt8) : Int := if (getF nm S.files).isSome then 0 else 12

/-- a call on a disk that answers a number -/
def DiskPost (F : Nat → Prop) (w : World) (d : Nat) (n : Int) (S' : SD) (e : Ending) (w' : World) : Prop :=
  e = .returned (.int .i64 n) ∧ ∃ F', DiskAt F' w' d S' ∧ Upd F F' w w'

theorem SD.Ok.looseCells {S : SD} (hok : S.Ok) {role : Nat → Nat} {w : World} {d m : Nat} {lv : Value} (hd : DiskIn role w d m lv S) : ∀ p ∈ S.loose, role p.1 = 4 ∧ IsCells w p.1 := by
  intro p hp
  obtain ⟨q, hq, e⟩ := hok.looseIn p hp
  rw [← e]
  exact ⟨(hd.file q hq).1, (hd.file q hq).cells⟩

theorem IsCells.setCell {w : World} {k : Nat} (h : IsCells w k) (g o : Nat) (v : Value) : IsCells (w.setCell ⟨g, o, none⟩ v) k := by
  by_cases e : k = g
  · subst e
    obtain ⟨cs, t, h⟩ := h
    exact ⟨_, _, setCell_same h⟩
  · exact h.block (Below.heap_setCell _ _ _ _ e)

theorem sync_any {F : Nat → Prop} {d : Nat} {S : SD} {w : World} (hd : DiskAt F w d S) (hok : S.Ok) (hlen : S.loose.length ≤ 16777216) (nm : ByteArray) (hn : nm.size ≤ maxLen) :
    Calls Try.prog 50 #[.pointer (some ⟨d, 0, none⟩), .string nm] w (DiskPost F w d (errOf S nm.data.toList) (S.sync nm.data.toList)) := by
  have hdat := hd
  obtain ⟨role, m, lv, hd, hF⟩ := hd
  have c0 := hd.c0
  have hlk := SD.lookup hd.map nm hn
  cases hg : getF nm.data.toList S.files with
  | none =>
    rw [hg] at hlk
    have hlk' : (Instr.lookup 85 (.map (some m)) (.string nm) false).run Try.prog w = .ok (.pointer none) w := hlk
    have Hg := Lib.hid hg
    have Hdat := Lib.hid hdat
    clear hd hok hlk hg hn hlen hF hdat
    go_enter Try.func50, Try.ntmps50
    go_wp2
    go_ret
    refine ⟨ret_int (by unfold errOf; rw [Hg.out]; rfl), F, ?_, Upd.of_below (Below.refl _ _)⟩
    unfold SD.sync
    rw [Hg.out]
    exact Hdat.out
  | some f =>
    rw [hg] at hlk
    have hlk' : (Instr.lookup 85 (.map (some m)) (.string nm) false).run Try.prog w = .ok (.pointer (some ⟨f.id, 0, none⟩)) w := hlk
    have hmem := getF_some hg
    obtain ⟨h4, dv, -, hb, hrow⟩ := hd.file _ hmem
    obtain ⟨A, c, rfl, hcap⟩ := ownsRow_slice hrow
    have f0 : w.cell? ⟨f.id, 0, none⟩ = some (.slice A f.data.length c) := by rw [cell_of hb]; rfl
    have f1 : w.cell? ⟨f.id, 1, none⟩ = some (.int .i64 f.safe) := by rw [cell_of hb]; rfl
    have f2 : w.cell? ⟨f.id, 2, none⟩ = some (.bool f.stays) := by rw [cell_of hb]; rfl
    have z1 : w.frozen? ⟨f.id, 1, none⟩ = false := free_of hb _
    have z2 : w.frozen? ⟨f.id, 2, none⟩ = false := free_of hb _
    have Hg := Lib.hid hg
    have Hd := Lib.hid hd
    have Hok := Lib.hid hok
    have Hb := Lib.hid hb
    have Hm := Lib.hid hmem
    have H4 := Lib.hid h4
    have HF := Lib.hid hF
    clear hd hok hlk hg hn hb hrow hF hmem h4
    go_enter Try.func50, Try.ntmps50
    have hd1 := Hd.out.setSafe Hm.out ((w.setCell ⟨f.id, 1, none⟩ (.int .i64 f.data.length)).setCell ⟨f.id, 2, none⟩ (.bool true)) f.data.length true (by simp [World.setCell])
      (fun k hk hne => (Below.heap_setCell _ _ _ _ hne).trans (Below.heap_setCell _ _ _ _ hne)) (fun dv hdv => by rw [setCell_same (setCell_same hdv)]; rfl)
    have hcall := forget_any hd1 f.id ⟨_, _, setCell_same (setCell_same Hb.out)⟩ (by rw [H4.out]; decide) (fun p hp => ⟨(Hok.out.looseCells Hd.out p hp).1, ((Hok.out.looseCells Hd.out p hp).2.setCell _ _ _).setCell _ _ _⟩) hlen
    have Hcall := Lib.hid hcall
    clear hd1 hcall hlen
    go_wp2_with fail
    refine Hcall.out.mono ?_
    rintro e w2 ⟨rfl, lv', hd2, hs2⟩
    have Hd2 := Lib.hid hd2
    have Hs2 := Lib.hid hs2
    clear hd2 hs2
    go_wp2
    go_ret
    refine ⟨ret_int (by unfold errOf; rw [Hg.out]; rfl), F, ⟨role, m, lv', ?_, HF.out⟩, ?_⟩
    · unfold SD.sync
      rw [Hg.out]
      exact Hd2.out
    · refine (upd_of (role := role) (role' := role) ?_ (fun _ _ h => h)).congr (fun k => (HF.out k).symm) (fun k => HF.out k)
      have h1 : Same (fun k => role k = 0) w ((w.setCell ⟨f.id, 1, none⟩ (.int .i64 f.data.length)).setCell ⟨f.id, 2, none⟩ (.bool true)) :=
        ((Same.setCell w f.id 1 _).trans (Same.setCell _ f.id 2 _)).mono fun k _ h e => by rw [e, H4.out] at h; cases h
      exact h1.trans (Hs2.out.mono fun k _ h => ⟨fun e => (by rw [e, Hd.out.rd] at h; cases h), by rw [h]; decide⟩)
end Go.Proofs.Ytkefciacdmbidaa
