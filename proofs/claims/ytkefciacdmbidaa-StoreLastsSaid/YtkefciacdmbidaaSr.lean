/- Crash: the walk. -/
import Derived.Test.YtkefciacdmbidaaSq
namespace Go.Proofs.Ytkefciacdmbidaa
open Go.RowKit Go.WideMaps Go.Maps

theorem wpList_max0 (w : World) {ops : Array Oper} {rest : List Oper} {o : Oper} {a : Act} {Q : Exit → Act → World → Prop} (hg : o.guard = none) (x : Operand)
    (hop : o.op = Op.call { callee := Callee.builtin Builtin.max, args := #[x, .const (.int .i64 0)], argTypes := #[3, 3] }) (q : Int) (t : Nat) (ht : q.toNat = t) (hx : a.eval x = .int .i64 q)
    (hK : wpList Try.prog ops Q rest (a.put o.dst (.int .i64 t)) w) : wpList Try.prog ops Q (o :: rest) a w := by
  refine wpList_plain hg fun K' hK' => ?_
  unfold Oper.wp
  simp only [execOp, hop, resolve, invoke, builtin]
  simp [hx, Result.andThen]
  refine (congrArg (fun z => K' (a.put o.dst (.int .i64 z)) w) ?_).mpr (hK' _ _ hK)
  split <;> omega

theorem wpList_minN (w : World) {ops : Array Oper} {rest : List Oper} {o : Oper} {a : Act} {Q : Exit → Act → World → Prop} (hg : o.guard = none) (x y : Operand)
    (hop : o.op = Op.call { callee := Callee.builtin Builtin.min, args := #[x, y], argTypes := #[3, 3] }) (t n m : Nat) (hm : min t n = m) (hx : a.eval x = .int .i64 t) (hy : a.eval y = .int .i64 n)
    (hK : wpList Try.prog ops Q rest (a.put o.dst (.int .i64 m)) w) : wpList Try.prog ops Q (o :: rest) a w := by
  refine wpList_plain hg fun K' hK' => ?_
  unfold Oper.wp
  simp only [execOp, hop, resolve, invoke, builtin]
  simp [hx, hy, Result.andThen]
  refine (congrArg (fun z => K' (a.put o.dst (.int .i64 z)) w) ?_).mpr (hK' _ _ hK)
  split <;> omega

structure CrAt (role : Nat → Nat) (w : World) (d m : Nat) (lv : Value) (S : SD) (keep : Int) (k : Nat) (q : Int) (wr : World) : Prop where
  val : q = (cred (S.loose.take k) keep S.files).1
  inv : CrInv S (cred (S.loose.take k) keep S.files).2 (S.loose.drop k)
  disk : DiskIn role wr d m lv { S with files := (cred (S.loose.take k) keep S.files).2 }
  same : Same (fun k => role k = 0) w wr
  lo : -9223372036854775808 ≤ q
  hi : q ≤ 9223372036854775807

theorem drop_cons {l : List (Nat × Nat)} {k : Nat} (h : k < l.length) : l.drop k = l[k] :: l.drop (k + 1) := List.drop_eq_getElem_cons h

theorem CrAt.next {role : Nat → Nat} {w : World} {d m : Nat} {lv : Value} {S : SD} {keep : Int} {k : Nat} {q : Int} {wr : World} (h : CrAt role w d m lv S keep k q wr) (hok : S.Ok) {s : List UInt8} {f : SF} {n x : Nat} (hlt : k < S.loose.length) (hin : S.loose[k] = (f.id, n))
    (hf : (s, f) ∈ (cred (S.loose.take k) keep S.files).2) (hx : min q.toNat n = x) (o : Obj) (b : Bool) (hb : b = (f.stays || decide (0 < x))) (hlo : -9223372036854775808 ≤ q - x) (hhi : q - x ≤ 9223372036854775807) :
    CrAt role w d m lv S keep (k + 1) (q - x) ((((wr.alloc o).setCell ⟨f.id, 1, none⟩ (.int .i64 ((f.safe : Int) + x))).setCell ⟨f.id, 2, none⟩ (.bool b)).drew) := by
  have hc : cred (S.loose.take (k + 1)) keep S.files = (q - x, updF f.id (credF x) (cred (S.loose.take k) keep S.files).2) := by
    rw [cred_take _ _ _ _ hlt, hin]
    unfold credS
    simp only
    rw [← h.val, hx]
  have h4 := (h.disk.file _ hf).1
  have hd := h.disk.setSafe hf ((((wr.alloc o).setCell ⟨f.id, 1, none⟩ (.int .i64 ((f.safe : Int) + x))).setCell ⟨f.id, 2, none⟩ (.bool b)).drew) (f.safe + x) b (by simp [World.setCell]) (fun k hk hne => by
      refine (Below.heap_setCell _ _ _ _ hne).trans ((Below.heap_setCell _ _ _ _ hne).trans (Below.heap_alloc wr o k hk))) (fun dv hdv => by
      have h1 := (Below.heap_alloc wr o f.id (Array.getElem?_eq_some_iff.1 hdv).1).trans hdv
      have h2 := setCell_same (o := 2) (v := .bool b) (setCell_same (o := 1) (v := .int .i64 ((f.safe : Int) + x)) h1)
      exact h2)
  refine ⟨by rw [hc], ?_, ?_, ?_, hlo, hhi⟩
  · rw [hc]
    have := h.inv
    rw [drop_cons hlt, hin] at this
    exact this.step x (by omega)
  · rw [hc]
    rw [hb] at hd
    have e := updF_one (g := credF x) (h.inv.ids hok) hf
    have e2 : (fun _ : SF => ({ f with safe := f.safe + x, stays := f.stays || decide (0 < x) } : SF)) = fun _ => credF x f := rfl
    simp only at hd
    rw [e2, e] at hd
    rw [hb]
    exact hd
  · refine h.same.trans ?_
    have k1 : Same (fun k => role k = 0) wr (wr.alloc o) := Same.alloc _ _ _
    have k2 : Same (fun k => role k = 0) (wr.alloc o) ((wr.alloc o).setCell ⟨f.id, 1, none⟩ (.int .i64 ((f.safe : Int) + x))) := (Same.setCell _ f.id 1 _).mono fun k _ h e => by rw [e, h4] at h; cases h
    have k3 := (Same.setCell ((wr.alloc o).setCell ⟨f.id, 1, none⟩ (.int .i64 ((f.safe : Int) + x))) f.id 2 (.bool b)).mono (keep' := fun k => role k = 0) fun k _ h e => by rw [e, h4] at h; cases h
    have k4 := (k1.trans k2).trans k3
    exact ⟨k4.os, k4.tape, k4.output, k4.size, k4.block⟩

theorem state_in {L : Files} {R : List (List UInt8 × Nat)} {s : List UInt8} {f : SF} (h : (s, f) ∈ stateOf L R) (hR : inR R s = true) : (s, f) ∈ L := by
  obtain ⟨p, hp, e⟩ := List.mem_map.1 h
  have hpL := (List.mem_filter.1 hp).1
  by_cases hc : inR R p.1 = true
  · rw [if_pos hc] at e
    rw [← e]
    exact hpL
  · rw [if_neg hc] at e
    simp only [Prod.mk.injEq] at e
    rw [e.1] at hc
    exact absurd hR hc

theorem RangeIs.sub {w : World} {m it : Nat} {L rem : List (List UInt8 × Nat)} (h : RangeIs w m it L rem) : ∀ p ∈ rem, p ∈ L := by
  obtain ⟨left, cnt, _, hrem⟩ := h
  intro p hp
  rw [hrem] at hp
  exact (List.mem_filter.1 hp).1

/-- the second loop under way -/
structure CrB (role : Nat → Nat) (w : World) (d m it : Nat) (S : SD) (L : Files) (R : List (List UInt8 × Nat)) (wr : World) : Prop where
  range : RangeIs wr m it ((stateOf L R).map idp) R
  disk : DiskIn role wr d m (.slice none 0 0) { S with files := stateOf L R, loose := [] }
  same : Same (fun k => role k = 0) w wr
  new : w.heap.size ≤ it
  rit : role it = 0

theorem ownsRow_take {w : World} {e : TypeId} {A : Option Addr} {n c m : Nat} {xs : List Value} (h : w.ownsRow 0 e 1 (.slice A n c) n xs) (hm : m ≤ n) : w.ownsRow 0 e 1 (.slice A m c) m (xs.take m) := by
  refine ⟨by rw [List.length_take, h.1]; omega, ?_⟩
  rcases h.2 with ⟨e1, e2⟩ | ⟨g, cap, cur, e1, h1, h2, h3, h4, h5, h6⟩
  · cases e1
    have : m = 0 := by omega
    subst this
    exact Or.inl ⟨rfl, rfl⟩
  · cases e1
    refine Or.inr ⟨g, _, cur, rfl, h1, h2, by omega, h4, h5, ?_⟩
    rw [← h6, List.take_take]
    congr 1
    omega

structure CrMid (role : Nat → Nat) (w : World) (d m it : Nat) (S : SD) (L : Files) (R : List (List UInt8 × Nat)) (s : List UInt8) (f : SF) (W : World) : Prop where
  disk : DiskIn role W d m (.slice none 0 0) { S with files := updF f.id (fun _ => trunc f) (stateOf L R), loose := [] }
  range : RangeIs W m it ((stateOf L R).map idp) (ers s R)
  same : Same (fun k => role k = 0) w W

theorem CrB.mid {role : Nat → Nat} {w : World} {d m it : Nat} {S : SD} {L : Files} {R : List (List UInt8 × Nat)} {wr w1 : World} (h : CrB role w d m it S L R wr) {s : ByteArray} {f : SF} (hst : FileStep wr w1 m it ((stateOf L R).map idp) R s f.id)
    (hfs : (s.data.toList, f) ∈ stateOf L R) (hsafe : f.safe ≤ f.data.length) {A : Option Addr} {c : Nat} (hblk : w1.heap[f.id]? = some (.cells #[.slice A f.data.length c, .int .i64 f.safe, .bool f.stays] 103 (0, 0))) :
    CrMid role w d m it S L R s.data.toList f ((w1.setCell ⟨f.id, 0, none⟩ (.slice A f.safe c)).drew) := by
  have hd1 : DiskIn role w1 d m (.slice none 0 0) { S with files := stateOf L R, loose := [] } := h.disk.keep (by rw [hst.heap]; exact Nat.le_refl _) fun k hk => hst.grown.block k (h.disk.lt k hk) (fun e => by cases e; exact hk h.rit)
  obtain ⟨h4, dv, hdv, hb, hrow⟩ := hd1.file _ hfs
  simp only at hb hrow h4 hdv
  have hdve : dv = .slice A f.data.length c := by
    rw [hblk] at hb
    simp at hb
    exact hb.symm
  subst hdve
  have hne : ∀ k, role k ≠ 4 → k ≠ f.id := fun k hk e => by rw [e] at hk; exact hk h4
  refine ⟨?_, ?_, ?_⟩
  · refine hd1.setFile (f' := trunc f) h4 rfl (fun _ _ => rfl) (fun k hk => ?_) (fun k hk hne _ => Below.heap_setCell _ _ _ _ hne) ⟨h4, .slice A f.safe c, fun g hg => hdv g (by cases A <;> exact hg), ?_, ?_⟩
    · have := hd1.lt k hk
      simp [World.setCell]
      exact this
    · exact setCell_same hblk
    · have e : (trunc f).data.length = f.safe := by simp [trunc]; omega
      rw [e]
      have := ownsRow_take hrow hsafe
      rw [← List.map_take] at this
      exact ownsRow_block this fun g hg => Below.heap_setCell _ _ _ _ (fun e => by
        have h1 := hdv g (by cases A <;> exact hg)
        rw [show g = f.id from e, h4] at h1
        omega)
  · refine hst.range.block (Below.heap_setCell _ _ _ _ (hne m (by rw [hd1.rm]; decide))) (Below.heap_setCell _ _ _ _ (hne it (by rw [h.rit]; decide)))
  · have k0 : Same (fun k => role k = 0 ∧ k < w.heap.size) w wr := h.same.mono fun k _ hk => hk.1
    have k1 : Same (fun k => role k = 0 ∧ k < w.heap.size) wr w1 := (Same.of_grown hst.grown).mono fun k _ hk e => by
      cases e
      have := h.new
      omega
    have k2 : Same (fun k => role k = 0 ∧ k < w.heap.size) w1 (w1.setCell ⟨f.id, 0, none⟩ (.slice A f.safe c)) := (Same.setCell w1 f.id 0 _).mono fun k _ hk e => by rw [e, h4] at hk; cases hk.1
    have k3 := ((k0.trans k1).trans k2).mono (keep' := fun k => role k = 0) fun k hk h => ⟨h, hk⟩
    exact ⟨k3.os, k3.tape, k3.output, k3.size, k3.block⟩

theorem CrB.keepF {role : Nat → Nat} {w : World} {d m it : Nat} {S : SD} {L : Files} {R : List (List UInt8 × Nat)} {wr W : World} {s : List UInt8} {f : SF} (h : CrB role w d m it S L R wr) (hm : CrMid role w d m it S L R s f W)
    (hids : L.Pairwise (fun p q => p.2.id ≠ q.2.id)) (hn : L.Pairwise (fun p q => p.1 ≠ q.1)) (hf : (s, f) ∈ L) (hR : inR R s = true) (hst : f.stays = true) : CrB role w d m it S L (ers s R) W := by
  have e := state_keep hids hn hf hR hst
  have e2 : (updF f.id (fun _ => trunc f) (stateOf L R)).map idp = (stateOf L R).map idp := updF_idp fun _ _ _ => rfl
  rw [e] at e2
  refine ⟨by rw [e2]; exact hm.range, ?_, hm.same, h.new, h.rit⟩
  have := hm.disk
  rw [e] at this
  exact this

theorem ers_ers {α : Type} (s : List UInt8) (R : List (List UInt8 × α)) : ers s (ers s R) = ers s R := by
  unfold ers
  rw [List.filter_filter]
  congr 1
  funext p
  cases (p.1 == s) <;> rfl

theorem CrB.dropF {role : Nat → Nat} {w : World} {d m it : Nat} {S : SD} {L : Files} {R : List (List UInt8 × Nat)} {wr W w3 : World} {s : List UInt8} {f : SF} (h : CrB role w d m it S L R wr) (hm : CrMid role w d m it S L R s f W)
    (hids : L.Pairwise (fun p q => p.2.id ≠ q.2.id)) (hn : L.Pairwise (fun p q => p.1 ≠ q.1)) (hf : (s, f) ∈ L) (hst : f.stays = false) (hr : RangeIs w3 m it (ers s ((stateOf L R).map idp)) (ers s (ers s R))) (hg : W.grownBy w3 (some m)) : CrB role w d m it S L (ers s R) w3 := by
  have e := state_drop (R := R) hids hn hf hst
  have e2 : (ers s (updF f.id (fun _ => trunc f) (stateOf L R))).map idp = ers s ((stateOf L R).map idp) := by
    rw [ers_idp, updF_idp fun _ _ _ => rfl]
  rw [e] at e2
  rw [ers_ers] at hr
  refine ⟨by rw [e2]; exact hr, ?_, hm.same.trans ((Same.of_grown hg).mono fun k _ hk e => by cases e; have := hm.disk.rm; omega), h.new, h.rit⟩
  have := hm.disk.setMap hg.size (fun k hk hne => hg.block k hk fun e => hne (by cases e; rfl)) (L := stateOf L (ers s R)) (by rw [e2]; exact hr.map) (fun p hp => hm.disk.file p (by
    rw [← e] at hp
    exact (mem_ers.1 hp).1))
  exact this

theorem rangeLeft_congr {w w' : World} {m it : Nat} (hm : w'.heap[m]? = w.heap[m]?) (hi : w'.heap[it]? = w.heap[it]?) : w'.rangeLeft m it = w.rangeLeft m it := by
  unfold World.rangeLeft
  rw [hm, hi]

def CrashPost (F : Nat → Prop) (w : World) (d : Nat) (S' : SD) (e : Ending) (w' : World) : Prop :=
  e = .returned (.tuple #[]) ∧ ∃ F', DiskAt F' w' d S' ∧ Upd F F' w w'

set_option maxRecDepth 100000 in
set_option maxHeartbeats 1000000 in
theorem crash_any {F : Nat → Prop} {d : Nat} {S : SD} {w : World} (hd : DiskAt F w d S) (hok : S.Ok) (hlen : S.loose.length ≤ 16777216) (keep : Int) (hk1 : -9223372036854775808 ≤ keep) (hk2 : keep ≤ 9223372036854775807) :
    Calls Try.prog 32 #[.pointer (some ⟨d, 0, none⟩), .int .i64 keep] w (CrashPost F w d (S.crash keep)) := by
  obtain ⟨role, m, lv, hd, hF⟩ := hd
  have c1 := hd.c1
  obtain ⟨A, c, hlv, -⟩ := ownsRow_slice hd.loose
  subst hlv
  have Hd := Lib.hid hd
  have Hok := Lib.hid hok
  have HF := Lib.hid hF
  have h0 : CrAt role w d m (.slice A S.loose.length c) S keep 0 keep w := ⟨rfl, CrInv.start hok, hd, Same.refl _ _, hk1, hk2⟩
  have H0 := Lib.hid h0
  have Hk1 := Lib.hid hk1
  have Hk2 := Lib.hid hk2
  have Hlen := Lib.hid hlen
  clear hd hok hF h0 hk1 hk2 
  go_enter Try.func32, Try.ntmps32
  go_wp2_with fail
  go_loopw [1, 14] (fun x y wr => ∃ (k : Nat) (q : Int), k ≤ S.loose.length ∧ y = .int .i64 k ∧ x = .int .i64 q ∧ CrAt role w d m (.slice A S.loose.length c) S keep k q wr) (fun _ y _ => S.loose.length - (intOf y).toNat)
  case atStart => exact ⟨0, keep, Nat.zero_le _, rfl, rfl, H0.out⟩
  case round =>
    obtain ⟨k, q, hk, rfl, rfl, hcr⟩ := hrel
    by_cases hlt : k < S.loose.length
    · obtain ⟨i, n, hin⟩ : ∃ i n, S.loose[k] = (i, n) := ⟨_, _, rfl⟩
      obtain ⟨g0, g1⟩ := looseCells_get S.loose k hlt
      rw [hin] at g0 g1
      obtain ⟨g, rfl⟩ : ∃ g, A = some ⟨g, 0, none⟩ := by
        rcases hcr.disk.loose.2 with ⟨e, e2⟩ | ⟨g, cap, cur, e, _⟩
        · have : S.loose.length = 0 := e2
          omega
        · cases e
          exact ⟨g, rfl⟩
      have hcs := hcr.disk.loose.cells (g := g) rfl
      have d0 : wr.cell? ⟨g, k * 2, none⟩ = some (.pointer (some ⟨i, 0, none⟩)) := by rw [← add0]; exact hcs _ _ g0
      have d1 : wr.cell? ⟨g, k * 2 + 1, none⟩ = some (.int .i64 n) := by rw [← add0]; exact hcs _ _ g1
      obtain ⟨q0, hq0, hq0i⟩ := Hok.out.looseIn (i, n) (by rw [← hin]; exact List.getElem_mem hlt)
      obtain ⟨⟨s, f⟩, hf, -, hfi, hfd⟩ := hcr.inv.has hq0
      obtain rfl : f.id = i := hfi.symm.trans hq0i
      have hsafe := hcr.inv.safe _ hf
      rw [drop_cons hlt, hin, looseOf_cons] at hsafe
      simp only [if_true] at hsafe
      have hdl := file_le Hok.out (k := q0.1) (f := q0.2) hq0
      rw [hfd] at hdl
      simp only at hdl hsafe
      have hr1 := Hok.out.room
      have hr2 := Hok.out.limit
      have hsb : f.safe + n ≤ 16777216 := by omega
      obtain ⟨h4, dv, hdv, hblk, hrow⟩ := hcr.disk.file _ hf
      have f1 : (wr.alloc (.cells #[.pointer (some ⟨f.id, 0, none⟩), .int .i64 n] 105)).cell? ⟨f.id, 1, none⟩ = some (.int .i64 f.safe) := cell_alloc (by rw [cell_of hblk]; rfl)
      have f2 : (wr.alloc (.cells #[.pointer (some ⟨f.id, 0, none⟩), .int .i64 n] 105)).cell? ⟨f.id, 2, none⟩ = some (.bool f.stays) := cell_alloc (by rw [cell_of hblk]; rfl)
      have z1 : (wr.alloc (.cells #[.pointer (some ⟨f.id, 0, none⟩), .int .i64 n] 105)).frozen? ⟨f.id, 1, none⟩ = false := free_of ((Below.heap_alloc wr _ f.id (Array.getElem?_eq_some_iff.1 hblk).1).trans hblk) _
      have z2 : (wr.alloc (.cells #[.pointer (some ⟨f.id, 0, none⟩), .int .i64 n] 105)).frozen? ⟨f.id, 2, none⟩ = false := free_of ((Below.heap_alloc wr _ f.id (Array.getElem?_eq_some_iff.1 hblk).1).trans hblk) _
      have hlo := hcr.lo
      have hhi := hcr.hi
      obtain ⟨t, ht⟩ : ∃ t, q.toNat = t := ⟨_, rfl⟩
      obtain ⟨x, hx⟩ : ∃ x, min t n = x := ⟨_, rfl⟩
      have hxn : x ≤ n := by omega
      have hq1 : -9223372036854775808 ≤ q - (x : Int) := by omega
      have hq2 : q - (x : Int) ≤ 9223372036854775807 := by omega
      have Hx := Lib.hid hx
      have Ht := Lib.hid ht
      have Hcr := Lib.hid hcr
      have Hf := Lib.hid hf
      have Hblk := Lib.hid hblk
      have Hin := Lib.hid hin
      have H4 := Lib.hid h4
      clear g0 g1 hcs hq0 hq0i hfi hfd hsafe hdl hr1 hr2 h4 hdv hblk hrow hx ht hcr hf hin
      cases hst : f.stays
      all_goals
        rw [hst] at f2
        have Hst := Lib.hid hst
        clear hst
        go_wp2_with (first | (refine wpList_max0 _ rfl _ rfl q t Ht.out rfl ?_) | (refine wpList_minN _ rfl _ _ rfl t n x Hx.out rfl rfl ?_))
        go_region
        go_wp2
        go_roundw
        case rel => exact ⟨k + 1, q - x, by omega, by go_num, rfl, Hcr.out.next Hok.out hlt Hin.out Hf.out (by rw [Ht.out]; exact Hx.out) _ _ (by rw [Hst.out]; simp) hq1 hq2⟩
        case measure => simp [intOf]; omega
    · have hkl : k = S.loose.length := by omega
      subst hkl
      obtain ⟨wo, rfl⟩ : ∃ wo : World, wo = wr := ⟨_, rfl⟩
      obtain ⟨L, hL⟩ : ∃ L, (cred S.loose keep S.files).2 = L := ⟨_, rfl⟩
      have hinv := hcr.inv
      have hdisk := hcr.disk
      rw [List.take_length, hL] at hinv hdisk
      rw [List.drop_length] at hinv
      have hd2 := hdisk.setLoose (w1 := wo) (l := []) (lv' := .slice none 0 0) (Nat.le_refl _) (fun _ _ _ => rfl) (fun g hg => by simp [Value.ownBlock] at hg) (World.ownsRow_nil _ _ _ _)
      have e0 := hd2.c0
      have hmap := hd2.map
      have f1 := hdisk.c1
      have z1 : wo.frozen? ⟨d, 1, none⟩ = false := free_of hdisk.disk _
      have Hcr := Lib.hid hcr
      have Hinv := Lib.hid hinv
      have Hd2 := Lib.hid hd2
      have HL := Lib.hid hL
      clear hcr hinv hdisk hd2 hL
      go_wp2_with (first | (at_range; refine wpList_files_range _ rfl _ rfl rfl hmap ?_))
      intro w0 hrg0 hg0 hs0
      have hb0 : CrB role w d m wo.heap.size S L (L.map idp) w0 := ⟨by rw [stateOf_all]; exact hrg0, by
          rw [stateOf_all]
          exact Hd2.out.keep (by rw [hs0]; simp [World.setCell]) fun k hk => hg0.block k (Hd2.out.lt k hk) (by simp), (Hcr.out.same.trans ((Same.setCell wo d 1 _).mono fun k _ h e => by rw [e, Hd.out.rd] at h; cases h)).trans ((Same.of_grown hg0).mono fun k _ _ => by simp), Hcr.out.same.size, Classical.byContradiction fun hne => by
          have := Hcr.out.disk.lt _ hne
          omega⟩
      have Hb0 := Lib.hid hb0
      clear hb0 hrg0 hg0 hs0
      go_wp2_with fail
      go_loopw [8] (fun _ wr2 => ∃ R, CrB role w d m wo.heap.size S L R wr2) (fun _ wr2 => wr2.rangeLeft m wo.heap.size)
      case atStart => exact ⟨_, Hb0.out⟩
      case round =>
        obtain ⟨R, hcb⟩ := hrel
        have hrg := hcb.range
        have Hcb := Lib.hid hcb
        clear hcb
        go_wp2_with (first | (at_next; refine wpList_files_next _ rfl _ rfl rfl hrg ?_ ?_))
        · intro hr0
          have Hr0 := Lib.hid hr0.nil
          clear hr0
          go_wp2
          go_end0
          refine ⟨rfl, F, ⟨role, m, .slice none 0 0, ?_, HF.out⟩, (upd_of (role := role) (role' := role) Hcb.out.same (fun _ _ h => h)).congr (fun k => (HF.out k).symm) (fun k => HF.out k)⟩
          have := Hcb.out.disk
          rw [Hr0.out, stateOf_nil] at this
          unfold SD.crash
          rw [HL.out]
          exact this
        · intro s i w1 hst
          have hsR := inR_mem hst.mem
          obtain ⟨f, hfs, rfl⟩ := mem_idp (hrg.sub _ hst.mem)
          have hfL := state_in hfs hsR
          have hit := Hcb.out.new
          have hd1 : DiskIn role w1 d m (.slice none 0 0) { S with files := stateOf L R, loose := [] } := Hcb.out.disk.keep (by rw [hst.heap]; exact Nat.le_refl _) fun k hk => hst.grown.block k (Hcb.out.disk.lt k hk) (fun e => by cases e; exact hk Hcb.out.rit)
          obtain ⟨h4, dv, hdv, hblk, hrow⟩ := hd1.file _ hfs
          have hsafe := Hinv.out.safe _ hfL
          simp only [looseOf, List.filter_nil, List.map_nil, List.sum_nil, Nat.add_zero] at hsafe
          simp only at hrow
          obtain ⟨A, c, hdvs, hlc⟩ := ownsRow_slice hrow
          subst hdvs
          have b0 : w1.cell? ⟨f.id, 0, none⟩ = some (.slice A f.data.length c) := by rw [cell_of hblk]; rfl
          have b1 : w1.cell? ⟨f.id, 1, none⟩ = some (.int .i64 f.safe) := by rw [cell_of hblk]; rfl
          have b2 : w1.cell? ⟨f.id, 2, none⟩ = some (.bool f.stays) := by rw [cell_of hblk]; rfl
          have y0 : w1.frozen? ⟨f.id, 0, none⟩ = false := free_of hblk _
          have hen := hst.entry
          have e1 := hd1.c0
          have hsc : f.safe ≤ c := by omega
          have hdf : d ≠ f.id := fun e => by have := hd1.rd; rw [e, h4] at this; cases this
          have Hst := Lib.hid hst
          have HsR := Lib.hid hsR
          have Hfs := Lib.hid hfs
          have HfL := Lib.hid hfL
          have Hd1 := Lib.hid hd1
          have H4 := Lib.hid h4
          have Hdv := Lib.hid hdv
          have Hblk := Lib.hid hblk
          have Hrow := Lib.hid hrow
          have Hsafe := Lib.hid hsafe
          clear hst hsR hfs hfL hd1 h4 hdv hblk hrow hsafe hrg
          have hids := Hinv.out.ids Hok.out
          have hnm := (Hinv.out.sorted Hok.out).imp before_ne
          have Hids := Lib.hid hids
          have Hnm := Lib.hid hnm
          clear hids hnm
          have hmf : m ≠ f.id := fun e => by have := Hd1.out.rm; have h2 : role f.id = 4 := H4.out; rw [← e] at h2; omega
          have hitf : wo.heap.size ≠ f.id := fun e => by have := Hcb.out.rit; have h2 : role f.id = 4 := H4.out; rw [e] at this; omega
          have Hmf := Lib.hid hmf
          have Hitf := Lib.hid hitf
          clear hmf hitf
          cases hstay : f.stays
          · rw [hstay] at b2
            have Hblk2 := Hblk.out
            rw [hstay] at Hblk2
            have Hblk2 := Lib.hid Hblk2
            have Hstay := Lib.hid hstay
            clear hstay
            go_wp2
            go_region
            have hmid := Hcb.out.mid Hst.out Hfs.out Hsafe.out (by rw [Hstay.out]; exact Hblk2.out)
            have Hmid := Lib.hid hmid
            have hrg2 := hmid.range
            clear hmid
            go_wp2_with (first | (at_delete; refine wpList_files_delete_in _ rfl _ _ rfl hrg2 s Hst.out.size rfl rfl ?_))
            intro w3 hr3 hle3 hg3 hs3
            have Hr3 := Lib.hid hr3
            have Hle3 := Lib.hid hle3
            have Hg3 := Lib.hid hg3
            clear hr3 hle3 hg3 hs3 hrg2
            go_wp2
            refine ⟨⟨_, Hcb.out.dropF Hmid.out Hids.out Hnm.out HfL.out Hstay.out Hr3.out Hg3.out⟩, ?_⟩
            exact Nat.lt_of_le_of_lt Hle3.out (Nat.lt_of_le_of_lt (Nat.le_of_eq (rangeLeft_congr (Below.heap_setCell _ _ _ _ Hmf.out) (Below.heap_setCell _ _ _ _ Hitf.out))) Hst.out.left)
          · rw [hstay] at b2
            have Hblk2 := Hblk.out
            rw [hstay] at Hblk2
            have Hblk2 := Lib.hid Hblk2
            have Hstay := Lib.hid hstay
            clear hstay
            go_wp2
            go_region
            have hmid := Hcb.out.mid Hst.out Hfs.out Hsafe.out (by rw [Hstay.out]; exact Hblk2.out)
            have Hmid := Lib.hid hmid
            have hrg2 := hmid.range
            clear hmid
            clear hrg2
            go_wp2
            refine ⟨⟨_, Hcb.out.keepF Hmid.out Hids.out Hnm.out HfL.out HsR.out Hstay.out⟩, ?_⟩
            exact Nat.lt_of_le_of_lt (Nat.le_of_eq (rangeLeft_congr (Below.heap_setCell _ _ _ _ Hmf.out) (Below.heap_setCell _ _ _ _ Hitf.out))) Hst.out.left
end Go.Proofs.Ytkefciacdmbidaa
