/- A map from names to files (map[string]*file) as a sorted list of names and block numbers: what a look-up, a store, a delete and a step of a range do to it. The disk of package store as plain data, how it lies in memory, and what stays where it is. The small functions of package store: what they answer. append onto a row that nobody else holds, from any source; bytes.Clone. Read, Loose, forget and what it calls: contracts of package store. Loose, forget and what it calls: contracts of package store. forget: a file's writes are taken out of the row of those that don't last. slices.DeleteFunc over the writes of a disk. forget, Sync, Remove: contracts of package store. Sync and Remove: contracts of package store. Remove and Rename: contracts of package store. Rename: the contract of package store. -/
import Derived.Test.YtkefciacdmbidaaProg
import Derived.WalkKit
import Derived.KernelRfl
import Derived.Maps.OwnSet
import Derived.Maps.RangeWalk
import Derived.WalkSpells
import Derived.WalkLawsBesides
import Derived.Lib.Hide
import Derived.Lib.Strings
import Derived.Deep.QuietTactic
import Derived.BigQuiet
import Derived.Deep.RegionWith
import Derived.Deep.RegionHeld3
import Derived.StillTailTactics
import Derived.Outline
import Derived.Maps.AppendAt
import Derived.Laws.AppendOwnNone
import Derived.LaidEqlPtr
namespace Go.Proofs.Ytkefciacdmbidaa
open Go.RowKit Go.WideMaps Go.Maps

/-! lists of names -/
section
variable {α : Type}
def sins (p : List UInt8 × α) : List (List UInt8 × α) → List (List UInt8 × α)
  | [] => [p]
  | y :: r => if Go.bytesBefore p.1 y.1 then p :: y :: r else y :: sins p r
def ers (k : List UInt8) (L : List (List UInt8 × α)) : List (List UInt8 × α) := L.filter fun p => !(p.1 == k)
def getF (k : List UInt8) : List (List UInt8 × α) → Option α
  | [] => none
  | y :: r => if y.1 == k then some y.2 else getF k r

theorem sins_perm (p : List UInt8 × α) : ∀ L : List (List UInt8 × α), (sins p L).Perm (p :: L)
  | [] => List.Perm.refl _
  | y :: r => by
    unfold sins
    split
    · exact List.Perm.refl _
    · exact ((sins_perm p r).cons y).trans (List.Perm.swap _ _ _)
theorem sins_length (p : List UInt8 × α) (L : List (List UInt8 × α)) : (sins p L).length = L.length + 1 := (sins_perm p L).length_eq
theorem mem_sins {p q : List UInt8 × α} {L : List (List UInt8 × α)} : q ∈ sins p L ↔ q = p ∨ q ∈ L := by rw [(sins_perm p L).mem_iff]; simp
theorem sins_map {β : Type} (g : α → β) (p : List UInt8 × α) : ∀ L : List (List UInt8 × α), (sins p L).map (fun x => (x.1, g x.2)) = sins (p.1, g p.2) (L.map fun x => (x.1, g x.2))
  | [] => rfl
  | y :: r => by
    unfold sins
    by_cases h : Go.bytesBefore p.1 y.1 = true
    · simp [h]
    · simp [h, sins_map g p r]
theorem ers_map {β : Type} (g : α → β) (k : List UInt8) (L : List (List UInt8 × α)) : (ers k L).map (fun x => (x.1, g x.2)) = ers k (L.map fun x => (x.1, g x.2)) := by
  unfold ers
  rw [List.filter_map]
  rfl
theorem ers_length (k : List UInt8) (L : List (List UInt8 × α)) : (ers k L).length ≤ L.length := List.length_filter_le _ _
theorem mem_ers {k : List UInt8} {q : List UInt8 × α} {L : List (List UInt8 × α)} : q ∈ ers k L ↔ q ∈ L ∧ q.1 ≠ k := by simp [ers]
theorem getF_some {k : List UInt8} {a : α} : ∀ {L : List (List UInt8 × α)}, getF k L = some a → (k, a) ∈ L
  | y :: r, h => by
    unfold getF at h
    split at h
    · rename_i hk
      cases h
      have : y.1 = k := by simpa using hk
      subst this
      simp
    · simp [getF_some h]
theorem getF_none {k : List UInt8} : ∀ {L : List (List UInt8 × α)}, getF k L = none → ∀ p ∈ L, p.1 ≠ k
  | [], _, _, hp => by simp at hp
  | y :: r, h, p, hp => by
    unfold getF at h
    split at h
    · cases h
    · rename_i hk
      rcases List.mem_cons.1 hp with rfl | hp
      · simpa using hk
      · exact getF_none h p hp
theorem getF_map {β : Type} (g : α → β) (k : List UInt8) : ∀ L : List (List UInt8 × α), getF k (L.map fun x => (x.1, g x.2)) = (getF k L).map g
  | [] => rfl
  | y :: r => by
    simp only [List.map_cons, getF]
    split
    · rfl
    · exact getF_map g k r
theorem ers_none {k : List UInt8} {L : List (List UInt8 × α)} (h : getF k L = none) : ers k L = L := by
  unfold ers
  rw [List.filter_eq_self]
  intro p hp
  simp [getF_none h p hp]
end

/-! the map -/
def ptrR : Value → Option (DataW Unit × List MemPlace)
  | .pointer (some ⟨i, 0, none⟩) => some (.lit (.int .u64 i), [])
  | .pointer none => some (.nil, [])
  | _ => none
theorem ptrR_mk (i : Nat) : ptrR (.pointer (some ⟨i, 0, none⟩)) = some (.lit (.int .u64 i), []) := rfl
theorem ptrR_nil : ptrR (.pointer none) = some (.nil, []) := rfl
theorem ptrR_inv {v : Value} {y : DataW Unit × List MemPlace} (h : ptrR v = some y) : ∃ o : Option Nat, v = .pointer (o.map fun i => ⟨i, 0, none⟩) ∧ y.1 = (match o with | some i => .lit (.int .u64 i) | none => .nil) := by
  unfold ptrR at h
  split at h
  · cases h; exact ⟨some _, rfl, rfl⟩
  · cases h; exact ⟨none, rfl, rfl⟩
  · cases h

def encE (p : List UInt8 × Nat) : Lit × DataW Unit := (.string p.1, .lit (.int .u64 p.2))
def encM (L : List (List UInt8 × Nat)) : DataW Unit := .map (L.map encE)

theorem encM_insert (p : List UInt8 × Nat) : ∀ L : List (List UInt8 × Nat), DataW.insert (encE p) (L.map encE) = (sins p L).map encE
  | [] => rfl
  | y :: r => by
    have hb : (encE p).1.before (encE y).1 = Go.bytesBefore p.1 y.1 := rfl
    by_cases h : Go.bytesBefore p.1 y.1 = true
    · simp [sins, DataW.insert, hb, h]
    · simp [sins, DataW.insert, hb, h, encM_insert p r]
theorem encM_filter (k : List UInt8) (L : List (List UInt8 × Nat)) : (L.map encE).filter (fun p => !p.1.sameKey (.string k)) = (ers k L).map encE := by
  unfold ers
  rw [List.filter_map]
  rfl
theorem encM_put (L : List (List UInt8 × Nat)) (k : List UInt8) (i : Nat) : (encM L).put (.string k) (.lit (.int .u64 i)) = encM (sins (k, i) (ers k L)) := by
  show DataW.map (DataW.insert (encE (k, i)) ((L.map encE).filter fun p => !p.1.sameKey (.string k))) = _
  rw [encM_filter, encM_insert]
  rfl
theorem encM_del (L : List (List UInt8 × Nat)) (k : List UInt8) : (encM L).del (.string k) = encM (ers k L) := by
  show DataW.map ((L.map encE).filter fun p => !p.1.sameKey (.string k)) = _
  rw [encM_filter]
  rfl
theorem encM_at (k : List UInt8) (z : DataW Unit) : ∀ L : List (List UInt8 × Nat), (encM L).atKey (.string k) z = (match getF k L with | some i => .lit (.int .u64 i) | none => z)
  | [] => rfl
  | y :: r => by
    have ih := encM_at k z r
    have hs : (encE y).1.sameKey (.string k) = (y.1 == k) := rfl
    unfold DataW.atKey encM at ih ⊢
    simp only [List.map_cons, List.find?_cons, hs, getF]
    by_cases h : (y.1 == k) = true
    · simp [h, encE]
    · simp only [h]
      exact ih
theorem encM_has (k : List UInt8) (L : List (List UInt8 × Nat)) : Maps.has (encM L) (.string k) = L.any fun p => p.1 == k := by
  show (L.map encE).any _ = _
  rw [List.any_map]
  rfl

def MapIs (w : World) (m : Nat) (L : List (List UInt8 × Nat)) : Prop := w.ownsMap Try.prog 9 ptrR m L.length (encM L)

theorem law9 : Keyed Try.prog 9 := string_keyed Try.underlying9
theorem zero101 (w : World) : (zeroValue 101).run Try.prog w = .ok (.pointer none) w := by kernel_rfl

theorem MapIs.lt {w : World} {m : Nat} {L : List (List UInt8 × Nat)} (h : MapIs w m L) : m < w.heap.size := World.ownsMap.lt h

theorem ownsMap_tight {w : World} {m n : Nat} {L : List (List UInt8 × Nat)} (h : w.ownsMap Try.prog 9 ptrR m n (encM L)) : MapIs w m L := by
  obtain ⟨es, clock, hb, F, hs, hD⟩ := h
  refine ⟨es, clock, hb, F, ?_, hD⟩
  have := congrArg Maps.size hD
  simp [Maps.size, encM, length_sorted] at this
  omega

theorem MapIs.made (w : World) : MapIs (w.alloc (.map #[] 0)) w.heap.size [] := World.ownsMap_made _ _ _ _

theorem MapIs.block {w w' : World} {m : Nat} {L : List (List UInt8 × Nat)} (h : MapIs w m L) (hb : w'.heap[m]? = w.heap[m]?) : MapIs w' m L := by
  obtain ⟨es, clock, h1, h2⟩ := h
  exact ⟨es, clock, hb.trans h1, h2⟩

def ptrOf (o : Option Nat) : Value := .pointer (o.map fun i => ⟨i, 0, none⟩)
theorem ptrOf_some (i : Nat) : ptrOf (some i) = .pointer (some ⟨i, 0, none⟩) := rfl
theorem ptrOf_none : ptrOf none = .pointer none := rfl

theorem MapIs.lookup {w : World} {m : Nat} {L : List (List UInt8 × Nat)} (h : MapIs w m L) (nm : ByteArray) (hn : nm.size ≤ maxLen) :
    (Instr.lookup 85 (.map (some m)) (.string nm) false).run Try.prog w = .ok (ptrOf (getF nm.data.toList L)) w := by
  obtain ⟨v, ps, hrun, hv⟩ := World.ownsMap.lookup h law9 Try.underlying85 (zero101 w) ptrR_nil (keyOf_string_mk Try.underlying9 hn)
  rw [hrun]
  obtain ⟨o, rfl, ho⟩ := ptrR_inv hv
  simp only [encM_at] at ho
  unfold ptrOf
  cases o with
  | none =>
    cases hg : getF nm.data.toList L with
    | none => rfl
    | some i => rw [hg] at ho; cases ho
  | some j =>
    cases hg : getF nm.data.toList L with
    | none => rw [hg] at ho; cases ho
    | some i =>
      rw [hg] at ho
      simp only [DataW.lit.injEq, Lit.int.injEq, true_and] at ho
      have : i = j := by omega
      rw [this]

theorem MapIs.update {w : World} {m : Nat} {L : List (List UInt8 × Nat)} (h : MapIs w m L) (nm : ByteArray) (hn : nm.size ≤ maxLen) (hL : L.length < maxLen) (i : Nat) :
    ∃ w', (Instr.mapUpdate 85 (.map (some m)) (.string nm) (.pointer (some ⟨i, 0, none⟩))).run Try.prog w = .ok () w' ∧ MapIs w' m (sins (nm.data.toList, i) (ers nm.data.toList L)) ∧ w.grownBy w' (some m) ∧ w'.heap.size = w.heap.size := by
  obtain ⟨w', hrun, h1, h2⟩ := World.ownsMap.store h law9 Try.underlying85 hL (keyOf_string_mk Try.underlying9 hn) (ptrR_mk i)
  refine ⟨w', hrun, ?_, h2.grown, ?_⟩
  · rw [encM_put] at h1
    exact ownsMap_tight h1
  · obtain ⟨es, clock, es', clock', hb, rfl⟩ := h2
    simp [Go.ChangeMaps.setBlock]

theorem MapIs.drop {w : World} {m : Nat} {L : List (List UInt8 × Nat)} (h : MapIs w m L) (nm : ByteArray) (hn : nm.size ≤ maxLen) (ty : TypeId) :
    ∃ w', (Builtin.delete_ #[85, 9] ty #[.map (some m), .string nm]).run Try.prog w = .ok (.tuple #[]) w' ∧ MapIs w' m (ers nm.data.toList L) ∧ w.grownBy w' (some m) ∧ w'.heap.size = w.heap.size := by
  obtain ⟨w', hrun, h1, h2⟩ := World.ownsMap.drop h law9 Try.underlying85 (keyOf_string_mk Try.underlying9 hn) ty
  refine ⟨w', hrun, ?_, h2.grown, ?_⟩
  · rw [encM_del] at h1
    exact ownsMap_tight h1
  · obtain ⟨es, clock, es', clock', hb, rfl⟩ := h2
    simp [Go.ChangeMaps.setBlock]

/-! at the operation -/
theorem wpList_files_update {P' : Program} (hP : P' = Try.prog) (w : World) {ops : Array Oper} {rest : List Oper} {o : Oper} {a : Act} {Q : Exit → Act → World → Prop}
    (hg : o.guard = none) (x y v : Operand) (hop : o.op = Op.mapUpdate 85 x y v) {m : Nat} {L : List (List UInt8 × Nat)} (h : MapIs w m L) (hL : L.length < maxLen) (nm : ByteArray) (hn : nm.size ≤ maxLen) (i : Nat)
    (hx : a.eval x = .map (some m)) (hy : a.eval y = .string nm) (hv : a.eval v = .pointer (some ⟨i, 0, none⟩))
    (hK : ∀ w', MapIs w' m (sins (nm.data.toList, i) (ers nm.data.toList L)) → w.grownBy w' (some m) → w'.heap.size = w.heap.size → wpList P' ops Q rest (a.put o.dst undef) w') :
    wpList P' ops Q (o :: rest) a w := by
  subst hP
  refine wpList_plain hg fun K' hK' => ?_
  obtain ⟨w', hrun, r1, r2, r3⟩ := h.update nm hn hL i
  unfold Oper.wp
  simp [execOp, hop, hx, hy, hv, hrun, Result.andThen]
  exact hK' _ _ (hK w' r1 r2 r3)

theorem wpList_files_delete (w : World) {ops : Array Oper} {rest : List Oper} {o : Oper} {a : Act} {Q : Exit → Act → World → Prop}
    (hg : o.guard = none) (x y : Operand) (hop : o.op = Op.call { callee := Callee.builtin Builtin.delete, args := #[x, y], argTypes := #[85, 9] }) {m : Nat} {L : List (List UInt8 × Nat)} (h : MapIs w m L) (nm : ByteArray) (hn : nm.size ≤ maxLen)
    (hx : a.eval x = .map (some m)) (hy : a.eval y = .string nm)
    (hK : ∀ w', MapIs w' m (ers nm.data.toList L) → w.grownBy w' (some m) → w'.heap.size = w.heap.size → wpList Try.prog ops Q rest (a.put o.dst (.tuple #[])) w') :
    wpList Try.prog ops Q (o :: rest) a w := by
  refine wpList_plain hg fun K' hK' => ?_
  obtain ⟨w', hrun, r1, r2, r3⟩ := h.drop nm hn o.type
  unfold Oper.wp
  simp [execOp, hop, resolve, invoke, builtin, hx, hy, hrun, Result.andThen]
  exact hK' _ _ (hK w' r1 r2 r3)

/-! a range over the files: rem: the entries that are still to come -/
def RangeIs (w : World) (m it : Nat) (L rem : List (List UInt8 × Nat)) : Prop :=
  ∃ left cnt, w.ranges Try.prog 9 ptrR m it L.length (encM L) left cnt ∧ rem = L.filter fun p => left (.string p.1)

theorem RangeIs.block {w w' : World} {m it : Nat} {L rem : List (List UInt8 × Nat)} (h : RangeIs w m it L rem) (hm : w'.heap[m]? = w.heap[m]?) (hi : w'.heap[it]? = w.heap[it]?) : RangeIs w' m it L rem := by
  obtain ⟨left, cnt, ⟨es, clock, since, seen, c0, hb, F, hs, hD, hr, rest⟩, hrem⟩ := h
  exact ⟨left, cnt, ⟨es, clock, since, seen, c0, hm.trans hb, F, hs, hD, hi.trans hr, rest⟩, hrem⟩
theorem RangeIs.map {w : World} {m it : Nat} {L rem : List (List UInt8 × Nat)} (h : RangeIs w m it L rem) : MapIs w m L := by
  obtain ⟨left, cnt, hr, _⟩ := h
  exact hr.owns
theorem RangeIs.lt {w : World} {m it : Nat} {L rem : List (List UInt8 × Nat)} (h : RangeIs w m it L rem) : it < w.heap.size := by
  obtain ⟨left, cnt, hr, _⟩ := h
  exact World.ranges.lt hr
theorem RangeIs.ne {w : World} {m it : Nat} {L rem : List (List UInt8 × Nat)} (h : RangeIs w m it L rem) : it ≠ m := by
  obtain ⟨left, cnt, hr, _⟩ := h
  exact World.ranges.ne hr

theorem wpList_files_range (w : World) {ops : Array Oper} {rest : List Oper} {o : Oper} {a : Act} {Q : Exit → Act → World → Prop}
    (hg : o.guard = none) (x : Operand) (hop : o.op = Op.range 85 x) {m : Nat} {L : List (List UInt8 × Nat)} (hm : a.eval x = .map (some m)) (h : MapIs w m L)
    (hK : ∀ w', RangeIs w' m w.heap.size L L → w.grownBy w' none → w'.heap.size = w.heap.size + 1 → wpList Try.prog ops Q rest (a.put o.dst (.pointer (some ⟨w.heap.size, 0, none⟩))) w') :
    wpList Try.prog ops Q (o :: rest) a w :=
  wpList_range_own w hg x 85 hop 9 101 law9 Try.underlying85 ptrR m L.length (encM L) hm h fun w' h1 h2 h3 =>
    hK w' ⟨_, _, h1, by
      symm
      rw [List.filter_eq_self]
      intro p hp
      rw [encM_has, List.any_eq_true]
      exact ⟨p, hp, by simp⟩⟩ h2 h3

theorem sameKey_string (a b : List UInt8) : (Lit.string a).sameKey (.string b) = (a == b) := rfl

theorem rem_step {left : Lit → Bool} {L : List (List UInt8 × Nat)} (k : List UInt8) :
    (L.filter fun p => left (.string p.1) && !(Lit.string p.1).sameKey (.string k)) = ers k (L.filter fun p => left (.string p.1)) := by
  unfold ers
  rw [List.filter_filter]
  congr 1
  funext p
  rw [sameKey_string, Bool.and_comm]

theorem keyOf_string_inv {v : Value} {kl : Lit} (h : keyOf Try.prog 9 v = some kl) : ∃ s : ByteArray, v = .string s ∧ kl = .string s.data.toList ∧ s.size ≤ maxLen := by
  cases v <;> simp [keyOf, Try.underlying9, mapKey] at h
  obtain ⟨hw, rfl⟩ := h
  exact ⟨_, rfl, rfl, hw⟩

structure NoMore (rem : List (List UInt8 × Nat)) : Prop where
  nil : rem = []

/-- a step of a range: the file s, at block i, has come -/
structure FileStep (w w' : World) (m it : Nat) (L rem : List (List UInt8 × Nat)) (s : ByteArray) (i : Nat) : Prop where
  size : s.size ≤ maxLen
  mem : (s.data.toList, i) ∈ rem
  range : RangeIs w' m it L (ers s.data.toList rem)
  left : w'.rangeLeft m it < w.rangeLeft m it
  grown : w.grownBy w' (some it)
  heap : w'.heap.size = w.heap.size
  entry : (Instr.entry (.pointer (some ⟨it, 0, none⟩))).run Try.prog w' = .ok (.tuple #[.string s, .pointer (some ⟨i, 0, none⟩)]) w'

theorem wpList_files_next (w : World) {ops : Array Oper} {rest : List Oper} {o : Oper} {a : Act} {Q : Exit → Act → World → Prop}
    (hg : o.guard = none) (x : Operand) (hop : o.op = Op.next x false) {m it : Nat} {L rem : List (List UInt8 × Nat)} (hit : a.eval x = .pointer (some ⟨it, 0, none⟩)) (h : RangeIs w m it L rem)
    (hDone : NoMore rem → wpList Try.prog ops Q rest (a.put o.dst (.tuple #[.bool false])) w)
    (hMore : ∀ (s : ByteArray) (i : Nat) (w' : World), FileStep w w' m it L rem s i → wpList Try.prog ops Q rest (a.put o.dst (.tuple #[.bool true, .string s, .pointer (some ⟨i, 0, none⟩)])) w') :
    wpList Try.prog ops Q (o :: rest) a w := by
  obtain ⟨left, cnt, hr, hrem⟩ := h
  refine wpList_next_ranges (α := ByteArray) (β := Option Nat) w hg x hop 9 law9 ptrR Value.string ptrOf (fun key kl hk => ?_) (fun v y hv => ?_) m it L.length (encM L) left cnt hit hr ?_ ?_
  · obtain ⟨s, rfl, _⟩ := keyOf_string_inv hk; exact ⟨s, rfl⟩
  · obtain ⟨o, rfl, _⟩ := ptrR_inv hv; exact ⟨o, rfl⟩
  · intro _ hl
    exact hDone ⟨by rw [hrem]; simp [hl]⟩
  · intro s o kl y w' cnt' hkey hlk hv hat hr' hlt hgr hsz hen
    obtain ⟨s', e1, rfl, hs⟩ := keyOf_string_inv hkey
    cases e1
    have hz := hat (.nil)
    rw [encM_at] at hz
    obtain ⟨o', e2, ho⟩ := ptrR_inv hv
    have : o' = o := by
      cases o <;> cases o' <;> simp [ptrOf] at e2 ⊢
      exact e2.symm
    subst this
    have hz2 := hat (.lit (.bool true))
    rw [encM_at] at hz2
    cases hgF : getF s.data.toList L with
    | none => rw [hgF] at hz hz2; rw [← hz] at hz2; cases hz2
    | some i =>
      rw [hgF] at hz
      rw [ho] at hz
      cases o' with
      | none => cases hz
      | some j =>
        simp only [DataW.lit.injEq, Lit.int.injEq, true_and] at hz
        have hij : i = j := by omega
        subst hij
        refine hMore s i w' ⟨hs, ?_, ⟨_, cnt', hr', ?_⟩, by rw [hr'.left_eq, hr.left_eq]; exact hlt, hgr, hsz, hen⟩
        · rw [hrem, List.mem_filter]
          exact ⟨getF_some hgF, hlk⟩
        · rw [hrem]
          exact (rem_step _).symm

/-- a delete in a round of a range, of a key that has come -/
theorem wpList_files_delete_in (w : World) {ops : Array Oper} {rest : List Oper} {o : Oper} {a : Act} {Q : Exit → Act → World → Prop}
    (hg : o.guard = none) (x y : Operand) (hop : o.op = Op.call { callee := Callee.builtin Builtin.delete, args := #[x, y], argTypes := #[85, 9] }) {m it : Nat} {L rem : List (List UInt8 × Nat)} (h : RangeIs w m it L rem) (nm : ByteArray) (hn : nm.size ≤ maxLen)
    (hx : a.eval x = .map (some m)) (hy : a.eval y = .string nm)
    (hK : ∀ w', RangeIs w' m it (ers nm.data.toList L) (ers nm.data.toList rem) → w'.rangeLeft m it ≤ w.rangeLeft m it → w.grownBy w' (some m) → w'.heap.size = w.heap.size → wpList Try.prog ops Q rest (a.put o.dst (.tuple #[])) w') :
    wpList Try.prog ops Q (o :: rest) a w := by
  obtain ⟨left, cnt, hr, hrem⟩ := h
  refine wpList_delete_ranges w hg x y 85 9 hop 101 law9 Try.underlying85 ptrR m it L.length (encM L) left cnt hx hr _ _ hy (keyOf_string_mk Try.underlying9 hn) ?_
  intro w' cnt' hr' hle ht
  rw [encM_del] at hr'
  refine hK w' ⟨fun z => left z && !z.sameKey (.string nm.data.toList), cnt', ?_, ?_⟩ (by rw [hr'.left_eq, hr.left_eq]; exact hle) ht.grown ?_
  · obtain ⟨es, clock, since, seen, c0, hb, F, hs, hD, rest'⟩ := hr'
    refine ⟨es, clock, since, seen, c0, hb, F, ?_, hD, rest'⟩
    have := congrArg Maps.size hD
    simp [Maps.size, encM, length_sorted] at this
    omega
  · rw [hrem]
    show _ = (ers nm.data.toList L).filter _
    unfold ers
    rw [List.filter_filter, List.filter_filter]
    congr 1
    funext p
    show _ = ((left (.string p.1) && !(p.1 == nm.data.toList)) && !(p.1 == nm.data.toList))
    cases left (.string p.1) <;> cases (p.1 == nm.data.toList) <;> rfl
  · obtain ⟨es, clock, es', clock', hb, rfl⟩ := ht
    simp [Go.ChangeMaps.setBlock]
end Go.Proofs.Ytkefciacdmbidaa

namespace Go.Proofs.Ytkefciacdmbidaa
open Go.RowKit Go.WideMaps Go.Maps

structure SF where
  id : Nat
  data : List Int
  safe : Nat
  stays : Bool
structure SD where
  files : List (List UInt8 × SF)
  loose : List (Nat × Nat)
  limit : Nat

def idp (p : List UInt8 × SF) : List UInt8 × Nat := (p.1, p.2.id)
def SD.ids (S : SD) : List (List UInt8 × Nat) := S.files.map idp
def lens (L : List (List UInt8 × SF)) : Nat := (L.map fun p => p.2.data.length).sum
def SD.size (S : SD) : Nat := lens S.files
def SD.nloose (S : SD) : Nat := (S.loose.map (·.2)).sum
def looseCells (l : List (Nat × Nat)) : List Value := l.flatMap fun p => [.pointer (some ⟨p.1, 0, none⟩), .int .i64 p.2]
def looseOf (l : List (Nat × Nat)) (i : Nat) : Nat := ((l.filter fun p => p.1 == i).map (·.2)).sum

structure SD.Ok (S : SD) : Prop where
  sorted : S.files.Pairwise (fun p q => Go.bytesBefore p.1 q.1 = true)
  ids : S.files.Pairwise (fun p q => p.2.id ≠ q.2.id)
  names : ∀ p ∈ S.files, 1 ≤ p.1.length ∧ p.1.length ≤ 16
  sums : ∀ p ∈ S.files, p.2.safe + looseOf S.loose p.2.id = p.2.data.length
  looseIn : ∀ l ∈ S.loose, ∃ p ∈ S.files, p.2.id = l.1
  limit : S.limit ≤ 16777216
  room : S.size ≤ S.limit

/-! memory -/
def FileAt (role : Nat → Nat) (w : World) (f : SF) : Prop :=
  role f.id = 4 ∧ ∃ dv : Value, (∀ g, dv.ownBlock = some g → role g = 5 + f.id) ∧ w.heap[f.id]? = some (.cells #[dv, .int .i64 f.safe, .bool f.stays] 103 (0, 0)) ∧ w.ownsRow 0 5 1 dv f.data.length (f.data.map (Value.int .u8))

structure DiskIn (role : Nat → Nat) (w : World) (d m : Nat) (lv : Value) (S : SD) : Prop where
  lt : ∀ k, role k ≠ 0 → k < w.heap.size
  rd : role d = 1
  rm : role m = 2
  rl : ∀ g, lv.ownBlock = some g → role g = 3
  disk : w.heap[d]? = some (.cells #[.map (some m), lv, .int .i64 S.limit] 88 (0, 0))
  map : MapIs w m S.ids
  loose : w.ownsRow 0 105 2 lv S.loose.length (looseCells S.loose)
  file : ∀ p ∈ S.files, FileAt role w p.2

def DiskAt (F : Nat → Prop) (w : World) (d : Nat) (S : SD) : Prop :=
  ∃ (role : Nat → Nat) (m : Nat) (lv : Value), DiskIn role w d m lv S ∧ ∀ k, F k ↔ role k ≠ 0

structure Upd (F F' : Nat → Prop) (w w' : World) : Prop where
  os : w'.os = w.os
  tape : w'.tape = w.tape
  output : w'.output = w.output
  size : w.heap.size ≤ w'.heap.size
  block : ∀ k, k < w.heap.size → ¬ F k → w'.heap[k]? = w.heap[k]?
  sub : ∀ k, F' k → F k ∨ w.heap.size ≤ k

theorem Upd.trans {F F' F'' : Nat → Prop} {w w' w'' : World} (h : Upd F F' w w') (h' : Upd F' F'' w' w'') : Upd F F'' w w'' where
  os := h'.os.trans h.os
  tape := h'.tape.trans h.tape
  output := h'.output.trans h.output
  size := Nat.le_trans h.size h'.size
  block k hk hF := (h'.block k (Nat.lt_of_lt_of_le hk h.size) (fun hF' => by
    rcases h.sub k hF' with h1 | h1
    · exact hF h1
    · omega)).trans (h.block k hk hF)
  sub k hk := by
    rcases h'.sub k hk with h1 | h1
    · exact h.sub k h1
    · exact Or.inr (Nat.le_trans h.size h1)

theorem Upd.of_below {F : Nat → Prop} {w w' : World} (h : Below w.heap.size w w') : Upd F F w w' :=
  ⟨h.os, h.tape, h.output, h.size, fun k hk _ => h.block k hk, fun _ hk => Or.inl hk⟩

theorem Upd.below {F F' : Nat → Prop} {w w' : World} (h : Upd F F' w w') {B : Nat} (hF : ∀ k, F k → B ≤ k) (hB : B ≤ w.heap.size) : Below B w w' :=
  ⟨h.os, h.tape, h.output, h.size, fun k hk => h.block k (by omega) (fun hFk => by have := hF k hFk; omega)⟩

theorem ownsRow_block {w w' : World} {base : Nat} {e : TypeId} {size : Nat} {v : Value} {n : Nat} {xs : List Value} (h : w.ownsRow base e size v n xs) (hb : ∀ g, v.ownBlock = some g → w'.heap[g]? = w.heap[g]?) : w'.ownsRow base e size v n xs := by
  refine ⟨h.1, ?_⟩
  rcases h.2 with hn | ⟨g, cap, cur, rfl, hg, hgg, rest⟩
  · exact .inl hn
  · exact .inr ⟨g, cap, cur, rfl, hg, (hb g rfl).trans hgg, rest⟩

theorem ownsRow_slice {w : World} {base : Nat} {e : TypeId} {size : Nat} {v : Value} {n : Nat} {xs : List Value} (h : w.ownsRow base e size v n xs) : ∃ A c, v = .slice A n c ∧ n ≤ c := by
  rcases h.2 with ⟨rfl, rfl⟩ | ⟨g, cap, cur, rfl, _, _, hc, _⟩
  · exact ⟨_, _, rfl, Nat.le_refl _⟩
  · exact ⟨_, _, rfl, hc⟩

theorem ownsRow_base0 {w : World} {base : Nat} {e : TypeId} {size : Nat} {v : Value} {n : Nat} {xs : List Value} (h : w.ownsRow base e size v n xs) : w.ownsRow 0 e size v n xs := by
  refine ⟨h.1, ?_⟩
  rcases h.2 with hn | ⟨g, cap, cur, rfl, _, rest⟩
  · exact .inl hn
  · exact .inr ⟨g, cap, cur, rfl, Nat.zero_le _, rest⟩

theorem FileAt.keep {role role' : Nat → Nat} {w w' : World} {f : SF} (h : FileAt role w f) (hr : ∀ k, role k = 4 ∨ role k = 5 + f.id → role' k = role k) (hb : ∀ k, role k = 4 ∨ role k = 5 + f.id → w'.heap[k]? = w.heap[k]?) : FileAt role' w' f := by
  obtain ⟨h1, dv, h2, h3, h4⟩ := h
  refine ⟨(hr _ (Or.inl h1)).trans h1, dv, fun g hg => (hr _ (Or.inr (h2 g hg))).trans (h2 g hg), (hb _ (Or.inl h1)).trans h3, ownsRow_block h4 fun g hg => hb g (Or.inr (h2 g hg))⟩

theorem DiskIn.keep {role : Nat → Nat} {w w' : World} {d m : Nat} {lv : Value} {S : SD} (h : DiskIn role w d m lv S) (hs : w.heap.size ≤ w'.heap.size) (hb : ∀ k, role k ≠ 0 → w'.heap[k]? = w.heap[k]?) : DiskIn role w' d m lv S where
  lt k hk := Nat.lt_of_lt_of_le (h.lt k hk) hs
  rd := h.rd
  rm := h.rm
  rl := h.rl
  disk := (hb d (by rw [h.rd]; decide)).trans h.disk
  map := h.map.block (hb m (by rw [h.rm]; decide))
  loose := ownsRow_block h.loose fun g hg => hb g (by rw [h.rl g hg]; decide)
  file p hp := (h.file p hp).keep (fun _ _ => rfl) fun k hk => hb k (by omega)

theorem DiskAt.keep {F : Nat → Prop} {w w' : World} {d : Nat} {S : SD} (h : DiskAt F w d S) (hs : w.heap.size ≤ w'.heap.size) (hb : ∀ k, F k → w'.heap[k]? = w.heap[k]?) : DiskAt F w' d S := by
  obtain ⟨role, m, lv, h1, h2⟩ := h
  exact ⟨role, m, lv, h1.keep hs fun k hk => hb k ((h2 k).2 hk), h2⟩

theorem DiskAt.lt {F : Nat → Prop} {w : World} {d : Nat} {S : SD} (h : DiskAt F w d S) : ∀ k, F k → k < w.heap.size := by
  obtain ⟨role, m, lv, h1, h2⟩ := h
  exact fun k hk => h1.lt k ((h2 k).1 hk)

theorem DiskAt.below {F : Nat → Prop} {w w' : World} {d : Nat} {S : SD} (h : DiskAt F w d S) (hb : Below w.heap.size w w') : DiskAt F w' d S :=
  h.keep hb.size fun k hk => hb.block k (h.lt k hk)

theorem DiskAt.mem {F : Nat → Prop} {w : World} {d : Nat} {S : SD} (h : DiskAt F w d S) : F d := by
  obtain ⟨role, m, lv, h1, h2⟩ := h
  exact (h2 d).2 (by rw [h1.rd]; decide)

theorem below_undrew {B : Nat} {w w' : World} (h : Below B w.drew w') : Below B w w' := ⟨h.os, h.tape, h.output, h.size, h.block⟩

/-! what a walk reads -/
theorem cell_of {w : World} {b : Nat} {cs : Array Value} {e : TypeId} {z : Nat × Nat} (h : w.heap[b]? = some (.cells cs e z)) (i : Nat) : w.cell? ⟨b, i, none⟩ = cs[i]? := by
  simp [World.cell?, h]
theorem free_of {w : World} {b : Nat} {cs : Array Value} {e : TypeId} (h : w.heap[b]? = some (.cells cs e (0, 0))) (i : Nat) : w.frozen? ⟨b, i, none⟩ = false := by
  simp [World.frozen?, h]

theorem DiskIn.c0 {role : Nat → Nat} {w : World} {d m : Nat} {lv : Value} {S : SD} (h : DiskIn role w d m lv S) : w.cell? ⟨d, 0, none⟩ = some (.map (some m)) := by rw [cell_of h.disk]; rfl
theorem DiskIn.c1 {role : Nat → Nat} {w : World} {d m : Nat} {lv : Value} {S : SD} (h : DiskIn role w d m lv S) : w.cell? ⟨d, 1, none⟩ = some lv := by rw [cell_of h.disk]; rfl
theorem DiskIn.c2 {role : Nat → Nat} {w : World} {d m : Nat} {lv : Value} {S : SD} (h : DiskIn role w d m lv S) : w.cell? ⟨d, 2, none⟩ = some (.int .i64 S.limit) := by rw [cell_of h.disk]; rfl

/-! plain -/
theorem sum_ers {α : Type} (g : List UInt8 × α → Nat) : ∀ {L : List (List UInt8 × α)}, L.Pairwise (fun p q => p.1 ≠ q.1) → ∀ {k : List UInt8} {a : α}, (k, a) ∈ L → (L.map g).sum = g (k, a) + ((ers k L).map g).sum
  | y :: r, hp, k, a, h => by
    obtain ⟨h1, h2⟩ := List.pairwise_cons.1 hp
    rcases List.mem_cons.1 h with rfl | h
    · have : ers k ((k, a) :: r) = r := by
        unfold ers
        rw [List.filter_cons]
        simp
        intro x b hx e
        exact absurd e.symm (h1 (x, b) hx)
      rw [this]; simp
    · have hne : y.1 ≠ k := h1 (k, a) h
      have : ers k (y :: r) = y :: ers k r := by simp [ers, hne]
      rw [this]
      simp only [List.map_cons, List.sum_cons]
      rw [sum_ers g h2 h]
      omega
theorem ers_pairwise {α : Type} {R : List UInt8 × α → List UInt8 × α → Prop} {L : List (List UInt8 × α)} (h : L.Pairwise R) (k : List UInt8) : (ers k L).Pairwise R := h.filter _
theorem ers_idp (k : List UInt8) (L : List (List UInt8 × SF)) : (ers k L).map idp = ers k (L.map idp) := ers_map SF.id k L
theorem mem_idp {k : List UInt8} {i : Nat} {L : List (List UInt8 × SF)} (h : (k, i) ∈ L.map idp) : ∃ f, (k, f) ∈ L ∧ f.id = i := by
  obtain ⟨p, hp, e⟩ := List.mem_map.1 h
  unfold idp at e
  simp only [Prod.mk.injEq] at e
  obtain ⟨rfl, rfl⟩ := e
  exact ⟨p.2, hp, rfl⟩
theorem before_ne {a b : List UInt8} (h : Go.bytesBefore a b = true) : a ≠ b := by
  rintro rfl
  have := Go.WideShapes.before_irrefl (a := Lit.string a)
  simp [Lit.before, h] at this
theorem SD.Ok.names_ne {S : SD} (h : S.Ok) : S.files.Pairwise (fun p q => p.1 ≠ q.1) := h.sorted.imp before_ne

end Go.Proofs.Ytkefciacdmbidaa

namespace Go.Proofs.Ytkefciacdmbidaa
open Go.RowKit Go.WideMaps Go.Maps

theorem ret_int {k : IntKind} {a b : Int} (h : a = b) : Ending.returned (.int k a) = .returned (.int k b) := by rw [h]
theorem ret_bool {a b : Bool} (h : a = b) : Ending.returned (.bool a) = .returned (.bool b) := by rw [h]

def rightB (nm : ByteArray) : Bool := decide (1 ≤ nm.size ∧ nm.size ≤ 16)

theorem isEmpty_size (nm : ByteArray) : nm.toList.isEmpty = decide (nm.size = 0) := by
  have : nm.toList.length = nm.size := by
    rw [Lib.toList_data]
    rfl
  cases h : nm.toList with
  | nil => rw [h] at this; simp at this; simp [← this]
  | cons a r =>
    rw [h] at this
    simp at this
    have h0 : ¬ nm.size = 0 := by omega
    simp [h0]

theorem right_any (nm : ByteArray) (w : World) (h : nm.size ≤ maxLen) :
    Calls Try.prog 77 #[.string nm] w fun e w' => e = .returned (.bool (rightB nm)) ∧ w = w' := by
  unfold maxLen at h
  have hE := Lib.hid (isEmpty_size nm)
  go_enter Try.func77, Try.ntmps77
  go_wp2
  · go_ret
    refine ⟨ret_bool ?_, rfl⟩
    have h1 : nm.toList = [] := by assumption
    have h2 : nm.toList.isEmpty = true := by rw [h1]; rfl
    rw [hE.out] at h2
    simp at h2
    simp [rightB, h2]
  · go_ret
    refine ⟨ret_bool ?_, rfl⟩
    rw [hE.out, rightB]
    by_cases h0 : nm.size = 0
    · simp [h0]
    · by_cases h1 : nm.size ≤ 16 <;> simp [h0, h1] <;> omega

def IsSize (w : World) (S : SD) (e : Ending) (w' : World) : Prop := e = .returned (.int .i64 S.size) ∧ Below w.heap.size w w'

theorem lens_ers {L : List (List UInt8 × SF)} (hp : L.Pairwise (fun p q => p.1 ≠ q.1)) {k : List UInt8} {f : SF} (h : (k, f) ∈ L) : lens L = f.data.length + lens (ers k L) := sum_ers (fun p : List UInt8 × SF => p.2.data.length) hp h

set_option maxHeartbeats 400000 in
theorem size_any {F : Nat → Prop} {d : Nat} {S : SD} {w : World} (hd : DiskAt F w d S) (hok : S.Ok) :
    Calls Try.prog 26 #[.pointer (some ⟨d, 0, none⟩)] w (IsSize w S) := by
  obtain ⟨role, m, lv, hd, -⟩ := hd
  have c0 := hd.c0
  have hmap := hd.map
  have hlim : S.size ≤ 16777216 := Nat.le_trans hok.room hok.limit
  have H := Lib.hid hd
  have Hok := Lib.hid hok
  clear hd hok
  go_enter Try.func26, Try.ntmps26
  go_wp2_with (first
    | (at_range; refine wpList_files_range _ rfl _ rfl rfl hmap ?_; intro w0 hrg0 hg0 hs0))
  go_frame
  go_loopw [3] (fun n wr => ∃ rf : List (List UInt8 × SF), RangeIs wr m w.heap.size S.ids (rf.map idp) ∧ Below w.heap.size w wr ∧ (∀ p ∈ rf, p ∈ S.files) ∧ rf.Pairwise (fun p q => p.1 ≠ q.1) ∧ lens rf ≤ S.size ∧ n = .int .i64 ((S.size : Int) - lens rf))
    (fun _ wr => wr.rangeLeft m w.heap.size)
  case atStart => exact ⟨S.files, hrg0, (Below.refl _ _).grown hg0 (Nat.le_refl _) (by simp), fun _ h => h, Hok.out.names_ne, Nat.le_refl _, by simp [SD.size]⟩
  case round =>
    obtain ⟨rf, hrg, hnx, hin, hpw, hle, rfl⟩ := hrel
    have HIn := Lib.hid hin
    clear hin
    go_wp2_with (first
      | (at_next; refine wpList_files_next _ rfl _ rfl rfl hrg ?_ ?_))
    · intro hr0
      go_wp2
      go_ret
      have : rf = [] := by simpa using hr0.nil
      subst this
      exact ⟨ret_int (by simp [lens]), hnx⟩
    · intro s i w1 hst
      obtain ⟨f, hf, rfl⟩ := mem_idp hst.mem
      have hnx1 : Below w.heap.size w w1 := hnx.grown hst.grown hnx.size (fun j hj => by cases hj; exact Nat.le_refl _)
      have hen := hst.entry
      obtain ⟨-, dv, -, hb, hrow⟩ := H.out.file _ (HIn.out _ hf)
      obtain ⟨A, c, rfl, hc⟩ := ownsRow_slice hrow
      have hlt := (Array.getElem?_eq_some_iff.1 hb).1
      have hb1 := (hnx1.block f.id hlt).trans hb
      have c1 : w1.cell? ⟨f.id, 0, none⟩ = some (.slice A f.data.length c) := by rw [cell_of hb1]; rfl
      have hsum := lens_ers hpw hf
      have hl2 : lens (ers s.data.toList rf) ≤ S.size := by omega
      have Hb := Lib.hid hb
      have Hb1 := Lib.hid hb1
      have Hrow := Lib.hid hrow
      have Hst := Lib.hid hst
      have Hsum := Lib.hid hsum
      have Hf := Lib.hid hf
      clear hb hb1 hrow hst hsum hf
      have hl3 : (f.data.length : Int) ≤ (S.size : Int) := by have := Hsum.out; omega
      go_wp2
      refine ⟨⟨ers s.data.toList rf, by rw [ers_idp]; exact Hst.out.range, hnx1, fun p hp => HIn.out p (mem_ers.1 hp).1, ers_pairwise hpw _, hl2, ?_⟩, Hst.out.left⟩
      have := Hsum.out
      congr 1
      omega

theorem room_any {F : Nat → Prop} {d : Nat} {S : SD} {w : World} (hd : DiskAt F w d S) (hok : S.Ok) :
    Calls Try.prog 28 #[.pointer (some ⟨d, 0, none⟩)] w fun e w' => e = .returned (.int .i64 ((S.limit : Int) - S.size)) ∧ Below w.heap.size w w' := by
  have hsz : ∀ w0 : World, w0.heap = w.heap → Calls Try.prog 26 #[.pointer (some ⟨d, 0, none⟩)] w0 (IsSize w0 S) := fun w0 h0 => size_any (hd.keep (by rw [h0]; exact Nat.le_refl _) (fun k _ => by rw [h0])) hok
  obtain ⟨role, m, lv, hd, -⟩ := hd
  have hlim : S.size ≤ 16777216 := Nat.le_trans hok.room hok.limit
  have hlim2 : S.limit ≤ 16777216 := hok.limit
  have c2 := hd.c2
  have hdl := hd.lt d (by rw [hd.rd]; decide)
  have hcells : ∀ w0 w1 : World, Below w0.heap.size w0 w1 → w0.heap = w.heap → w1.cell? ⟨d, 2, none⟩ = some (.int .i64 S.limit) := fun w0 w1 hb h0 => by
    rw [hb.cell (p := ⟨d, 2, none⟩) (by rw [h0]; exact hdl)]
    rw [cell_of (by rw [h0]; exact hd.disk)]; rfl
  have H := Lib.hid hd
  have Hc := Lib.hid hcells
  have Hz := Lib.hid hsz
  clear hd hok hcells hsz
  have hwr : IntKind.i64.wrap ((S.limit : Int) - S.size) = (S.limit : Int) - S.size := IntWalk.i64_in _ (by omega)
  go_enter Try.func28, Try.ntmps28
  go_wp2_with fail
  go_region_with (go_at_call 26; refine (Hz.out _ ?_).mono ?_; exact rfl; rintro e w' ⟨rfl, hb⟩; have hx := Hc.out _ _ hb rfl)
  all_goals (go_wp2; go_ret; exact ⟨rfl, below_undrew hb⟩)
end Go.Proofs.Ytkefciacdmbidaa

namespace Go.Proofs.Ytkefciacdmbidaa
open Go.RowKit Go.WideMaps Go.Maps

/-- a slice value that holds these cells, m elements -/
def Srcs (w : World) (v : Value) (size m : Nat) (news : List Value) : Prop :=
  (v = .slice none 0 0 ∧ m = 0 ∧ news = []) ∨
  ∃ ad c, v = .slice (some ad) m c ∧ m ≤ c ∧ news.length = m * size ∧ (∀ j u, news[j]? = some u → w.cell? (ad.add j) = some u) ∧ ∀ u ∈ news, u.oneCell' = true

structure Appended (w w' : World) (v v' : Value) (e size n m : Nat) (xs : List Value) : Prop where
  own : w'.ownsRow 0 e size v' (n + m) xs
  grown : w.grownBy w' v.ownBlock
  nil : v' = .slice none 0 0 ↔ v = .slice none 0 0 ∧ m = 0
  loc : v'.ownBlock = v.ownBlock ∨ v'.ownBlock = some w.heap.size

theorem Srcs.slice {w : World} {v : Value} {size m : Nat} {news : List Value} (h : Srcs w v size m news) : ∃ A c, v = .slice A m c ∧ m ≤ c := by
  rcases h with ⟨rfl, rfl, _⟩ | ⟨ad, c, rfl, hc, _⟩
  · exact ⟨_, _, rfl, Nat.le_refl _⟩
  · exact ⟨_, _, rfl, hc⟩

theorem Srcs.length {w : World} {v : Value} {size m : Nat} {news : List Value} (h : Srcs w v size m news) : news.length = m * size := by
  rcases h with ⟨_, rfl, rfl⟩ | ⟨ad, c, _, _, h, _⟩
  · simp
  · exact h

theorem Srcs.one {w : World} {v : Value} {size m : Nat} {news : List Value} (h : Srcs w v size m news) : ∀ u ∈ news, u.oneCell' = true := by
  rcases h with ⟨_, _, rfl⟩ | ⟨ad, c, _, _, _, _, h⟩
  · simp
  · exact h

theorem Srcs.below {w w' : World} {v : Value} {size m : Nat} {news : List Value} (h : Srcs w v size m news) {B : Nat} (hb : Below B w w') (hv : ∀ ad n c, v = .slice (some ad) n c → ad.block < B ∧ ad.spot = none) : Srcs w' v size m news := by
  rcases h with h | ⟨ad, c, rfl, hc, hl, hcell, h1⟩
  · exact Or.inl h
  · obtain ⟨h2, h3⟩ := hv ad m c rfl
    refine Or.inr ⟨ad, c, rfl, hc, hl, fun j u hj => ?_, h1⟩
    have := hcell j u hj
    have e : (ad.add j).block = ad.block := by unfold Addr.add; split <;> rfl
    rw [hb.cell (p := ad.add j) (by rw [e]; exact h2)]
    exact this

theorem wpList_app (w : World) {ops : Array Oper} {rest : List Oper} {o : Oper} {a : Act} {Q : Exit → Act → World → Prop} (hgd : o.guard = none) (s x : Operand) (t : TypeId)
    (ho : o.op = .call { callee := .builtin .append, args := #[s, x], argTypes := #[t, t] }) (e : TypeId) (size bytes : Nat) (z : Value) (ht : Try.prog.underlying t = some (.slice e))
    (hi : (Try.prog.info? e).map (fun i => (i.zero, i.size, i.bytes)) = some (some z, size, bytes)) (hzs : z.cells.size = size) (hsz : 0 < size)
    (v : Value) (n : Nat) (xs : List Value) (hs : a.eval s = v) (hown : w.ownsRow 0 e size v n xs) (y : Value) (m : Nat) (news : List Value) (hx : a.eval x = y) (hsrc : Srcs w y size m news)
    (h63 : n + m ≤ maxLen) (hbytes : (n + m) * bytes ≤ 140737488355328)
    (h : ∀ v' w', Appended w w' v v' e size n m (xs ++ news) → wpList Try.prog ops Q rest (a.put o.dst v') w') : wpList Try.prog ops Q (o :: rest) a w := by
  obtain ⟨i, hi', hz1, hz2, hz3⟩ := info_parts hi
  rcases hsrc with ⟨rfl, rfl, rfl⟩ | ⟨ad, c, rfl, hc, hl, hcell, h1⟩
  · refine wpList_append_own_none hgd s x t ho 0 e i size ht hi' v n xs hs hown hx (h v w ⟨by simpa using hown, ⟨rfl, rfl, rfl, Nat.le_refl _, fun _ _ _ => rfl⟩, by simp, Or.inl rfl⟩)
  · exact wpList_append_own_at w hgd s x t ho 0 e i z size bytes ht hi' hz1 hz2 hz3 hzs hsz v n xs hs hown ad m c news hx hl hcell h1 h63 hbytes (Nat.zero_le _) fun v' w' h2 h3 h4 h5 => h v' w' ⟨h2, h3, h4, h5⟩

theorem info5 : (Try.prog.info? 5).map (fun i => (i.zero, i.size, i.bytes)) = some (some (.int .u8 0), 1, 1) := by kernel_rfl
theorem info3 : (Try.prog.info? 3).map (fun i => (i.zero, i.size, i.bytes)) = some (some (.int .i64 0), 1, 8) := by kernel_rfl
theorem info9 : (Try.prog.info? 9).map (fun i => (i.zero, i.size, i.bytes)) = some (some (.string ⟨#[]⟩), 1, 16) := by kernel_rfl
theorem info105 : (Try.prog.info? 105).map (fun i => (i.zero, i.size, i.bytes)) = some (some (.agg #[.pointer none, .int .i64 0]), 2, 16) := by kernel_rfl
theorem info32 : (Try.prog.info? 32).map (fun i => (i.zero, i.size, i.bytes)) = some (some (.slice none 0 0), 1, 24) := by kernel_rfl

/-- the bytes that a slice value holds -/
def BytesAt (w : World) (v : Value) (xs : List Int) : Prop := Srcs w v 1 xs.length (xs.map (Value.int .u8))
def IntsAt (w : World) (v : Value) (xs : List Int) : Prop := Srcs w v 1 xs.length (xs.map (Value.int .i64))

theorem ownsRow_srcs {w : World} {base : Nat} {e : TypeId} {size : Nat} {v : Value} {n : Nat} {xs : List Value} (h : w.ownsRow base e size v n xs) (h1 : ∀ u ∈ xs, u.oneCell' = true) : Srcs w v size n xs := by
  have hl := h.1
  have hcs := @World.ownsRow.cells w base e size v n xs h
  rcases h.2 with ⟨rfl, rfl⟩ | ⟨g, cap, cur, rfl, _, _, hc, _⟩
  · exact Or.inl ⟨rfl, rfl, by simpa using hl⟩
  · exact Or.inr ⟨⟨g, 0, none⟩, cap, rfl, hc, hl, fun j u hj => hcs (g := g) rfl j u hj, h1⟩
theorem one_u8 (xs : List Int) : ∀ u ∈ xs.map (Value.int .u8), u.oneCell' = true := by simp [Value.oneCell']
theorem one_i64 (xs : List Int) : ∀ u ∈ xs.map (Value.int .i64), u.oneCell' = true := by simp [Value.oneCell']

theorem ownsRow_rebase {w : World} {base base' : Nat} {e : TypeId} {size : Nat} {v : Value} {n : Nat} {xs : List Value} (h : w.ownsRow base e size v n xs) (hb : ∀ g, v.ownBlock = some g → base' ≤ g) : w.ownsRow base' e size v n xs := by
  refine ⟨h.1, ?_⟩
  rcases h.2 with hn | ⟨g, cap, cur, rfl, _, rest⟩
  · exact .inl hn
  · exact .inr ⟨g, cap, cur, rfl, hb g rfl, rest⟩

/-- the answer is a new row that holds these elements -/
def NewRow (w : World) (e size : Nat) (n : Nat) (xs : List Value) (en : Ending) (w' : World) : Prop :=
  ∃ v, en = .returned v ∧ w'.ownsRow w.heap.size e size v n xs ∧ Below w.heap.size w w'

theorem Srcs.alloc {w : World} {v : Value} {size m : Nat} {news : List Value} (h : Srcs w v size m news) (o : Obj) : Srcs (w.alloc o) v size m news := by
  rcases h with h | ⟨ad, c, rfl, hc, hl, hcell, h1⟩
  · exact Or.inl h
  · refine Or.inr ⟨ad, c, rfl, hc, hl, fun j u hj => ?_, h1⟩
    have h2 := hcell j u hj
    have hlt := World.block_lt_of_cell? w _ h2
    rw [World.cell?_of_block (w := w) (Below.heap_alloc w o _ hlt)]
    exact h2
theorem BytesAt.alloc {w : World} {v : Value} {xs : List Int} (h : BytesAt w v xs) (o : Obj) : BytesAt (w.alloc o) v xs := Srcs.alloc h o

theorem newRow_made {w w1 : World} {o : Obj} {e size m : Nat} {v1 : Value} {xs : List Value} (h : Appended (w.alloc o) w1 (.slice (some ⟨w.heap.size, 0, none⟩) 0 0) v1 e size 0 m ([] ++ xs)) : NewRow w e size m xs (.returned v1) w1 := by
  have hown := h.own
  rw [Nat.zero_add, List.nil_append] at hown
  refine ⟨v1, rfl, ownsRow_rebase hown fun g hg => ?_, ?_⟩
  · rcases h.loc with hl | hl
    · rw [hg] at hl
      simp [Value.ownBlock] at hl
      omega
    · rw [hg] at hl
      simp at hl
      omega
  · exact ((Below.refl _ _).alloc (Nat.le_refl _) _).grown h.grown (by simp) (fun k hk => by simp [Value.ownBlock] at hk; omega)

theorem clone59_any (w : World) (v : Value) (xs : List Int) (h : BytesAt w v xs) (hn : xs.length ≤ 140737488355328) :
    Calls Try.prog 59 #[v] w (NewRow w 5 1 xs.length (xs.map (Value.int .u8))) := by
  have H := Lib.hid h
  rcases h with ⟨rfl, h0, -⟩ | ⟨ad, c, rfl, -⟩
  · have hx : xs = [] := by simpa using h0
    subst hx
    clear hn h0
    have he := fun w' : World => Lib.run_eql_slice_nil (P := Try.prog) w' 32 5 none 0 0 0 0 Try.underlying32
    go_enter Try.func59, Try.ntmps59
    go_wp2
    go_ret
    exact ⟨_, rfl, World.ownsRow_nil _ _ _ _, Below.refl _ _⟩
  · have he := fun w' : World => Lib.run_eql_slice_nil (P := Try.prog) w' 32 5 (some ad) xs.length c 0 0 Try.underlying32
    go_enter Try.func59, Try.ntmps59
    go_wp2_with (first | (at_builtin; go_loud (refine wpList_app _ rfl _ _ 32 rfl 5 1 1 _ Try.underlying32 info5 rfl (by decide) _ 0 [] rfl (World.ownsRow_made _ #[] 0 (Nat.zero_le _) (Nat.zero_le _) rfl) _ xs.length (xs.map (Value.int .u8)) rfl ?hsrc ?h63 ?hby ?_)))
    case hsrc => exact H.out.alloc _
    case h63 => unfold maxLen; omega
    case hby => omega
    intro v1 w1 hap
    go_wp2
    go_ret
    exact newRow_made hap
theorem clone82_any (w : World) (v : Value) (xs : List Int) (h : BytesAt w v xs) (hn : xs.length ≤ 140737488355328) :
    Calls Try.prog 82 #[v] w (NewRow w 5 1 xs.length (xs.map (Value.int .u8))) := by
  have H := Lib.hid h
  rcases h with ⟨rfl, h0, -⟩ | ⟨ad, c, rfl, -⟩
  · have hx : xs = [] := by simpa using h0
    subst hx
    clear hn h0
    have he := fun w' : World => Lib.run_eql_slice_nil (P := Try.prog) w' 32 5 none 0 0 0 0 Try.underlying32
    go_enter Try.func82, Try.ntmps82
    go_wp2
    go_ret
    exact ⟨_, rfl, World.ownsRow_nil _ _ _ _, Below.refl _ _⟩
  · have he := fun w' : World => Lib.run_eql_slice_nil (P := Try.prog) w' 32 5 (some ad) xs.length c 0 0 Try.underlying32
    go_enter Try.func82, Try.ntmps82
    go_wp2_with (first | (at_builtin; go_loud (refine wpList_app _ rfl _ _ 32 rfl 5 1 1 _ Try.underlying32 info5 rfl (by decide) _ 0 [] rfl (World.ownsRow_made _ #[] 0 (Nat.zero_le _) (Nat.zero_le _) rfl) _ xs.length (xs.map (Value.int .u8)) rfl ?hsrc ?h63 ?hby ?_)))
    case hsrc => exact H.out.alloc _
    case h63 => unfold maxLen; omega
    case hby => omega
    intro v1 w1 hap
    go_wp2
    go_ret
    exact newRow_made hap
theorem clone64_any (w : World) (v : Value) (xs : List Int) (h : IntsAt w v xs) (hn : xs.length * 8 ≤ 140737488355328) :
    Calls Try.prog 64 #[v] w (NewRow w 3 1 xs.length (xs.map (Value.int .i64))) := by
  have H := Lib.hid h
  rcases h with ⟨rfl, h0, -⟩ | ⟨ad, c, rfl, -⟩
  · have hx : xs = [] := by simpa using h0
    subst hx
    clear hn h0
    have he := fun w' : World => Lib.run_eql_slice_nil (P := Try.prog) w' 57 3 none 0 0 0 0 Try.underlying57
    go_enter Try.func64, Try.ntmps64
    go_wp2
    go_ret
    exact ⟨_, rfl, World.ownsRow_nil _ _ _ _, Below.refl _ _⟩
  · have he := fun w' : World => Lib.run_eql_slice_nil (P := Try.prog) w' 57 3 (some ad) xs.length c 0 0 Try.underlying57
    go_enter Try.func64, Try.ntmps64
    go_wp2_with (first | (at_builtin; go_loud (refine wpList_app _ rfl _ _ 57 rfl 3 1 8 _ Try.underlying57 info3 rfl (by decide) _ 0 [] rfl (World.ownsRow_made _ #[] 0 (Nat.zero_le _) (Nat.zero_le _) rfl) _ xs.length (xs.map (Value.int .i64)) rfl ?hsrc ?h63 ?hby ?_)))
    case hsrc => exact H.out.alloc _
    case h63 => unfold maxLen; omega
    case hby => omega
    intro v1 w1 hap
    go_wp2
    go_ret
    exact newRow_made hap
end Go.Proofs.Ytkefciacdmbidaa

namespace Go.Proofs.Ytkefciacdmbidaa
open Go.RowKit Go.WideMaps Go.Maps

def SD.data (S : SD) (nm : List UInt8) : List Int := match getF nm S.files with | some f => f.data | none => []

theorem SD.lookup {S : SD} {w : World} {m : Nat} (h : MapIs w m S.ids) (nm : ByteArray) (hn : nm.size ≤ maxLen) :
    (Instr.lookup 85 (.map (some m)) (.string nm) false).run Try.prog w = .ok (ptrOf ((getF nm.data.toList S.files).map SF.id)) w := by
  rw [h.lookup nm hn, show S.ids = S.files.map (fun x => (x.1, SF.id x.2)) from rfl, getF_map]

theorem file_le {S : SD} {k : List UInt8} {f : SF} (hok : S.Ok) (h : (k, f) ∈ S.files) : f.data.length ≤ S.size := by
  have := lens_ers hok.names_ne h
  unfold SD.size
  omega

def ReadPost (w : World) (S : SD) (nm : List UInt8) (e : Ending) (w' : World) : Prop :=
  ∃ v, e = .returned (.tuple #[v, .bool (getF nm S.files).isSome]) ∧ w'.ownsRow w.heap.size 5 1 v (S.data nm).length ((S.data nm).map (Value.int .u8)) ∧ Below w.heap.size w w'

theorem read_any {F : Nat → Prop} {d : Nat} {S : SD} {w : World} (hd : DiskAt F w d S) (hok : S.Ok) (nm : ByteArray) (hn : nm.size ≤ maxLen) :
    Calls Try.prog 30 #[.pointer (some ⟨d, 0, none⟩), .string nm] w (ReadPost w S nm.data.toList) := by
  obtain ⟨role, m, lv, hd, -⟩ := hd
  have c0 := hd.c0
  have hlk := SD.lookup hd.map nm hn
  cases hg : getF nm.data.toList S.files with
  | none =>
    rw [hg] at hlk
    have hlk' : (Instr.lookup 85 (.map (some m)) (.string nm) false).run Try.prog w = .ok (.pointer none) w := hlk
    have Hg := Lib.hid hg
    clear hd hok hlk hg hn
    go_enter Try.func30, Try.ntmps30
    go_wp2
    go_ret2
    exact ⟨_, by rw [Hg.out]; rfl, by unfold SD.data; rw [Hg.out]; exact World.ownsRow_nil _ _ _ _, Below.refl _ _⟩
  | some f =>
    rw [hg] at hlk
    have hlk' : (Instr.lookup 85 (.map (some m)) (.string nm) false).run Try.prog w = .ok (.pointer (some ⟨f.id, 0, none⟩)) w := hlk
    have hmem := getF_some hg
    obtain ⟨-, dv, -, hb, hrow⟩ := hd.file _ hmem
    have c1 : w.cell? ⟨f.id, 0, none⟩ = some dv := by rw [cell_of hb]; rfl
    have hle := file_le hok hmem
    have hle2 := hok.room
    have hle3 := hok.limit
    have hcl := clone59_any w dv f.data (by have := ownsRow_srcs hrow (one_u8 _); simpa [BytesAt] using this) (by omega)
    have Hg := Lib.hid hg
    have Hcl := Lib.hid hcl
    clear hd hok hlk hg hn hb hrow hle hle2 hle3 hcl
    go_enter Try.func30, Try.ntmps30
    go_wp2_with fail
    refine Hcl.out.mono ?_
    rintro e w' ⟨v, rfl, hown, hbel⟩
    go_wp2
    go_ret2
    exact ⟨_, by rw [Hg.out]; rfl, by unfold SD.data; rw [Hg.out]; exact hown, hbel⟩
end Go.Proofs.Ytkefciacdmbidaa

namespace Go.Proofs.Ytkefciacdmbidaa
open Go.RowKit Go.WideMaps Go.Maps

theorem looseCells_length (l : List (Nat × Nat)) : (looseCells l).length = l.length * 2 := by
  induction l with
  | nil => rfl
  | cons p r ih => simp [looseCells] at ih ⊢; omega
theorem looseCells_get (l : List (Nat × Nat)) (k : Nat) (h : k < l.length) : (looseCells l)[k * 2]? = some (.pointer (some ⟨l[k].1, 0, none⟩)) ∧ (looseCells l)[k * 2 + 1]? = some (.int .i64 l[k].2) := by
  induction l generalizing k with
  | nil => simp at h
  | cons p r ih =>
    cases k with
    | zero => exact ⟨rfl, rfl⟩
    | succ k =>
      have := ih k (by simpa using h)
      have e : looseCells (p :: r) = .pointer (some ⟨p.1, 0, none⟩) :: .int .i64 p.2 :: looseCells r := rfl
      rw [e, show (k + 1) * 2 = k * 2 + 1 + 1 from by omega]
      simpa using this
theorem one_loose (l : List (Nat × Nat)) : ∀ u ∈ looseCells l, u.oneCell' = true := by
  intro u hu
  simp only [looseCells, List.mem_flatMap] at hu
  obtain ⟨p, _, hp⟩ := hu
  simp at hp
  rcases hp with rfl | rfl <;> rfl

def sum2 (l : List (Nat × Nat)) : Nat := (l.map (·.2)).sum
theorem sum2_take (l : List (Nat × Nat)) (k : Nat) (h : k < l.length) : sum2 (l.take (k + 1)) = sum2 (l.take k) + l[k].2 := by
  unfold sum2
  rw [List.take_succ_eq_append_getElem h, List.map_append, List.sum_append]
  simp
theorem add0 (g j : Nat) : (⟨g, 0, none⟩ : Addr).add j = ⟨g, j, none⟩ := by unfold Addr.add; split <;> simp_all
theorem sum2_le (l : List (Nat × Nat)) (k : Nat) : sum2 (l.take k) ≤ sum2 l := by
  have : sum2 l = sum2 (l.take k) + sum2 (l.drop k) := by
    unfold sum2
    rw [← List.sum_append, ← List.map_append, List.take_append_drop]
  omega

theorem loose_any {F : Nat → Prop} {d : Nat} {S : SD} {w : World} (hd : DiskAt F w d S) (hl : S.nloose ≤ 16777216) (hlen : S.loose.length ≤ 16777216) :
    Calls Try.prog 29 #[.pointer (some ⟨d, 0, none⟩)] w fun e w' => e = .returned (.int .i64 S.nloose) ∧ Below w.heap.size w w' := by
  obtain ⟨role, m, lv, hd, -⟩ := hd
  have c1 := hd.c1
  have hn : S.nloose = sum2 S.loose := rfl
  rw [hn] at hl ⊢
  clear hn
  have hcs := @World.ownsRow.cells _ _ _ _ _ _ _ hd.loose
  have hrow := hd.loose
  clear hd
  rcases hrow.2 with ⟨rfl, h0⟩ | ⟨g, cap, cur, rfl, _, hg, hc, _⟩
  · have hs : S.loose = [] := by simpa using h0
    rw [hs]
    clear hcs hrow hs h0 hl hlen
    go_enter Try.func29, Try.ntmps29
    go_wp2
    refine wp_loop_rounds 1 ?_
    rw [rounds_succ]
    go_wp2
    go_ret
    exact ⟨rfl, Below.refl _ _⟩
  · have hglt := (Array.getElem?_eq_some_iff.1 hg).1
    have Hcs := Lib.hid (hcs (g := g) rfl)
    have Hl := Lib.hid hl
    generalize S.loose = l at *
    clear hcs hrow hg hl
    go_enter Try.func29, Try.ntmps29
    go_wp2
    go_loopw [3, 11] (fun n i wr => ∃ k : Nat, k ≤ l.length ∧ i = .int .i64 k ∧ n = .int .i64 (sum2 (l.take k)) ∧ Below w.heap.size w wr) (fun _ i _ => l.length - (intOf i).toNat)
    case atStart => exact ⟨0, Nat.zero_le _, rfl, rfl, Below.refl _ _⟩
    case round =>
      obtain ⟨k, hk, rfl, rfl, hnx⟩ := hrel
      by_cases hlt : k < l.length
      · obtain ⟨g0, g1⟩ := looseCells_get l k hlt
        have hst := sum2_take l k hlt
        have hle := sum2_le l (k + 1)
        obtain ⟨i, x, hix⟩ : ∃ i x, l[k] = (i, x) := ⟨_, _, rfl⟩
        rw [hix] at g0 g1 hst
        have d0 : wr.cell? ⟨g, k * 2, none⟩ = some (.pointer (some ⟨i, 0, none⟩)) := by rw [hnx.cell (p := ⟨g, k * 2, none⟩) hglt, ← add0]; exact Hcs.out _ _ g0
        have d1 : wr.cell? ⟨g, k * 2 + 1, none⟩ = some (.int .i64 x) := by rw [hnx.cell (p := ⟨g, k * 2 + 1, none⟩) hglt, ← add0]; exact Hcs.out _ _ g1
        have hx : x ≤ 16777216 := by have := Hl.out; simp at hst; omega
        have hs : sum2 (l.take k) ≤ 16777216 := by have := Hl.out; have := sum2_le l k; omega
        have Hst := Lib.hid hst
        clear g0 g1 hix hst hle
        go_wp2
        go_roundw
        case rel => exact ⟨k + 1, by omega, by go_num, by rw [Hst.out]; go_num, (hnx.alloc hnx.size _)⟩
        case measure => simp [intOf]; omega
      · go_wp2
        go_ret
        have : k = l.length := by omega
        subst this
        exact ⟨ret_int (by rw [List.take_length]), hnx⟩
end Go.Proofs.Ytkefciacdmbidaa

namespace Go.Proofs.Ytkefciacdmbidaa
open Go.RowKit Go.WideMaps Go.Maps

theorem cell_alloc {W : World} {a : Addr} {v : Value} {o : Obj} (h : W.cell? a = some v) : (W.alloc o).cell? a = some v := by
  rw [← h]
  exact World.cell?_of_block (Below.heap_alloc W o _ (World.block_lt_of_cell? W a h))

def IsCells (w : World) (k : Nat) : Prop := ∃ cs t, w.heap[k]? = some (.cells cs t (0, 0))
theorem IsCells.block {w w' : World} {k : Nat} (h : IsCells w k) (hb : w'.heap[k]? = w.heap[k]?) : IsCells w' k := by
  obtain ⟨cs, t, h⟩ := h
  exact ⟨cs, t, hb.trans h⟩
theorem IsCells.lt {w : World} {k : Nat} (h : IsCells w k) : k < w.heap.size := by
  obtain ⟨cs, t, h⟩ := h
  exact (Array.getElem?_eq_some_iff.1 h).1
theorem IsCells.below {w w' : World} {B k : Nat} (h : IsCells w k) (hb : Below B w w') (hk : k < B) : IsCells w' k := h.block (hb.block k hk)
theorem IsCells.alloc {w : World} {k : Nat} (h : IsCells w k) (o : Obj) : IsCells (w.alloc o) k := h.block (Below.heap_alloc w o k h.lt)

theorem info103 : (Try.prog.info? 103).map (fun i => (i.zero, i.size, i.bytes)) = some (some (.agg #[.slice none 0 0, .int .i64 0, .bool false]), 3, 40) := by kernel_rfl

theorem eql_file (w : World) (i j : Nat) (hi : IsCells w i) (hj : IsCells w j) : (binOp .eql 101 (.pointer (some ⟨j, 0, none⟩)) (.pointer (some ⟨i, 0, none⟩))).run Try.prog w = .ok (.bool (j == i)) w := by
  obtain ⟨i0, h1, _, h3, _⟩ := info_parts info103
  by_cases h : j = i
  · subst h
    rw [run_eql_ptr_same w _ Try.underlying101 h1]
    simp
  · obtain ⟨ci, ti, hi⟩ := hi
    obtain ⟨cj, tj, hj⟩ := hj
    rw [run_eql_ptr_other w Try.underlying101 h1 (by rw [h3]; decide) (fun e => h (by cases e; rfl)) hj hi]
    simp [h]

theorem del_any (i j n cb : Nat) (w : World) (hc : w.cell? ⟨cb, 0, none⟩ = some (.pointer (some ⟨i, 0, none⟩))) (hi : IsCells w i) (hj : IsCells w j) :
    Calls Try.prog 91 #[.agg #[.pointer (some ⟨j, 0, none⟩), .int .i64 n], .pointer (some ⟨cb, 0, none⟩)] w fun e w' => e = .returned (.bool (j == i)) ∧ Below w.heap.size w w' := by
  have hca : (w.alloc (.cells #[.pointer (some ⟨j, 0, none⟩), .int .i64 n] 105)).cell? ⟨cb, 0, none⟩ = some (.pointer (some ⟨i, 0, none⟩)) := cell_alloc hc
  have heq := eql_file _ i j (hi.alloc (.cells #[.pointer (some ⟨j, 0, none⟩), .int .i64 n] 105)) (hj.alloc _)
  clear hc hi hj
  go_enter Try.func91, Try.ntmps91
  go_wp2
  go_ret
  exact ⟨rfl, (Below.refl _ _).alloc (Nat.le_refl _) _⟩

def delF (cb : Nat) : Value := .func (.func 91) #[] #[.pointer (some ⟨cb, 0, none⟩)]

/-- the place of the first write to file i; as many as there are: there is none -/
def firstOf (i : Nat) (l : List (Nat × Nat)) : Nat := l.findIdx fun p => p.1 == i

def firstI (i : Nat) (l : List (Nat × Nat)) : Int := if firstOf i l < l.length then (firstOf i l : Int) else -1
theorem firstOf_le (i : Nat) (l : List (Nat × Nat)) : firstOf i l ≤ l.length := List.findIdx_le_length
theorem firstOf_hit {i : Nat} {l : List (Nat × Nat)} {k : Nat} (hk : k < l.length) (hf : k ≤ firstOf i l) (h : l[k].1 = i) : firstOf i l = k := by
  rcases Nat.lt_or_ge k (firstOf i l) with h1 | h1
  · have := List.not_of_lt_findIdx h1
    simp [h] at this
  · omega
theorem firstOf_miss {i : Nat} {l : List (Nat × Nat)} {k : Nat} (hk : k < l.length) (hf : k ≤ firstOf i l) (h : l[k].1 ≠ i) : k + 1 ≤ firstOf i l := by
  rcases Nat.lt_or_ge k (firstOf i l) with h1 | h1
  · omega
  · exfalso
    have e : firstOf i l = k := by omega
    have := List.findIdx_getElem (xs := l) (p := fun p => p.1 == i) (w := by show firstOf i l < _; omega)
    simp only [show List.findIdx (fun p : Nat × Nat => p.1 == i) l = k from e] at this
    exact h (by simpa using this)

theorem index_any (i cb : Nat) (l : List (Nat × Nat)) (v : Value) (w : World) (hcb : w.cell? ⟨cb, 0, none⟩ = some (.pointer (some ⟨i, 0, none⟩))) (hrow : w.ownsRow 0 105 2 v l.length (looseCells l)) (hlen : l.length ≤ 16777216) (hi : IsCells w i) (hin : ∀ p ∈ l, IsCells w p.1) :
    Calls Try.prog 110 #[v, delF cb] w fun e w' => e = .returned (.int .i64 (firstI i l)) ∧ Below w.heap.size w w' := by
  unfold delF
  have hcs := @World.ownsRow.cells _ _ _ _ _ _ _ hrow
  rcases hrow.2 with ⟨rfl, h0⟩ | ⟨g, cap, cur, rfl, _, hg, hc, _⟩
  · have hs : l = [] := by simpa using h0
    subst hs
    clear hcs hrow h0 hlen
    go_enter Try.func110, Try.ntmps110
    go_wp2
    refine wp_loop_rounds 1 ?_
    rw [rounds_succ]
    go_wp2
    go_ret
    exact ⟨ret_int (by simp [firstI, firstOf]), Below.refl _ _⟩
  · have hglt := (Array.getElem?_eq_some_iff.1 hg).1
    have Hcs := Lib.hid (hcs (g := g) rfl)
    have hcl : cb < w.heap.size := World.block_lt_of_cell? w _ hcb
    have Hc := Lib.hid hcb
    have Hi := Lib.hid hi
    have Hin := Lib.hid hin
    clear hcs hrow hg hcb hi hin
    go_enter Try.func110, Try.ntmps110
    go_wp2
    go_loopw [8] (fun x wr => ∃ k : Nat, k ≤ l.length ∧ x = .int .i64 k ∧ k ≤ firstOf i l ∧ Below w.heap.size w wr) (fun x _ => l.length - (intOf x).toNat)
    case atStart => exact ⟨0, Nat.zero_le _, rfl, Nat.zero_le _, Below.refl _ _⟩
    case round =>
      obtain ⟨k, hk, rfl, hkf, hnx⟩ := hrel
      by_cases hlt : k < l.length
      · obtain ⟨g0, g1⟩ := looseCells_get l k hlt
        obtain ⟨j, x, hix⟩ : ∃ i x, l[k] = (i, x) := ⟨_, _, rfl⟩
        rw [hix] at g0 g1
        have d0 : wr.cell? ⟨g, k * 2, none⟩ = some (.pointer (some ⟨j, 0, none⟩)) := by rw [hnx.cell (p := ⟨g, k * 2, none⟩) hglt, ← add0]; exact Hcs.out _ _ g0
        have d1 : wr.cell? ⟨g, k * 2 + 1, none⟩ = some (.int .i64 x) := by rw [hnx.cell (p := ⟨g, k * 2 + 1, none⟩) hglt, ← add0]; exact Hcs.out _ _ g1
        have hmem : (j, x) ∈ l := by rw [← hix]; exact List.getElem_mem hlt
        have Hix := Lib.hid hix
        clear g0 g1 hix
        have hc1 : wr.cell? ⟨cb, 0, none⟩ = some (.pointer (some ⟨i, 0, none⟩)) := by rw [hnx.cell (p := ⟨cb, 0, none⟩) hcl]; exact Hc.out
        have hi1 := Hi.out.below hnx Hi.out.lt
        have hj1 := (Hin.out _ hmem).below hnx (Hin.out _ hmem).lt
        have Hcall := Lib.hid (del_any i j x cb wr hc1 hi1 hj1)
        clear hc1 hi1 hj1
        go_wp2_with fail
        refine Hcall.out.mono ?_
        rintro e w' ⟨rfl, hb⟩
        by_cases hji : j = i
        · have ht : (j == i) = true := by simpa using hji
          rw [ht]
          go_wp2
          go_ret
          have hf := firstOf_hit hlt hkf (by rw [Hix.out]; exact hji)
          exact ⟨ret_int (by unfold firstI; rw [hf, if_pos hlt]), hnx.trans (hb.mono hnx.size)⟩
        · have ht : (j == i) = false := by simpa using hji
          rw [ht]
          have hf := firstOf_miss hlt hkf (by rw [Hix.out]; exact hji)
          clear hji ht
          go_wp2
          go_roundw
          case rel => exact ⟨k + 1, by omega, by go_num, hf, hnx.trans (hb.mono hnx.size)⟩
          case measure => simp [intOf]; omega
      · go_wp2
        go_ret
        have := firstOf_le i l
        exact ⟨ret_int (by unfold firstI; rw [if_neg (by omega)]), hnx⟩
end Go.Proofs.Ytkefciacdmbidaa

namespace Go.Proofs.Ytkefciacdmbidaa
open Go.RowKit Go.WideMaps Go.Maps

def keepL (i : Nat) (l : List (Nat × Nat)) : List (Nat × Nat) := l.filter fun p => p.1 != i

theorem setCell_same {w : World} {g o : Nat} {cur : Array Value} {e : TypeId} {z : Nat × Nat} {v : Value} (h : w.heap[g]? = some (.cells cur e z)) : (w.setCell ⟨g, o, none⟩ v).heap[g]? = some (.cells (cur.setIfInBounds o v) e z) := by
  simp only [World.setCell, Array.getElem?_modify, if_true, h, Option.map_some]
  rfl
theorem setRow_same {w : World} {g : Nat} {cur cs : Array Value} {e : TypeId} {z : Nat × Nat} (h : w.heap[g]? = some (.cells cur e z)) : (w.setRow g cs).heap[g]? = some (.cells cs e z) := by
  simp only [World.setRow, Array.getElem?_modify, if_true, h, Option.map_some]
theorem setRow_grown (w : World) (g : Nat) (cs : Array Value) : w.grownBy (w.setRow g cs) (some g) :=
  ⟨rfl, rfl, rfl, by simp [World.setRow], fun k _ hne => by
    simp only [World.setRow, Array.getElem?_modify]
    rw [if_neg (by intro e; exact hne (by rw [e]))]⟩
theorem setCell_grown (w : World) (g o : Nat) (v : Value) : w.grownBy (w.setCell ⟨g, o, none⟩ v) (some g) :=
  ⟨rfl, rfl, rfl, by simp [World.setCell], fun k _ hne => Below.heap_setCell _ _ _ _ (by intro e; exact hne (by rw [e]))⟩
theorem grown_of_below {w w' : World} (h : Below w.heap.size w w') (row : Option Nat) : w.grownBy w' row := ⟨h.os, h.tape, h.output, h.size, fun k hk _ => h.block k hk⟩

theorem run_clear_row (w : World) (ty : TypeId) (g q n c : Nat) (cur : Array Value) (hg : w.heap[g]? = some (.cells cur 105 (0, 0))) (hn : 0 < n) (hfit : q * 2 + n * 2 ≤ cur.size) :
    ∃ cs : Array Value, (Builtin.clear_ #[86] ty #[.slice (some ⟨g, q * 2, none⟩) n c]).run Try.prog w = .ok (.tuple #[]) (w.setRow g cs) ∧ cs.size = cur.size ∧ ∀ p, p < q * 2 → cs[p]? = cur[p]? := by
  have hz : ∀ w : World, (zeroValue 105).run Try.prog w = .ok (.agg #[.pointer none, .int .i64 0]) w := fun w => by kernel_rfl
  obtain ⟨zs, hzs⟩ : ∃ zs, Builtin.zeroCells #[.pointer none, .int .i64 0] n = zs := ⟨_, rfl⟩
  have hzl : zs.size = n * 2 := by rw [← hzs, size_zeroCells]; rfl
  have hz1 : ∀ v ∈ zs.toList, v.oneCell' = true := by
    intro v hv
    rw [← hzs] at hv
    simp only [Builtin.zeroCells, Array.toList_map, Array.toList_range, List.mem_map, List.mem_range] at hv
    obtain ⟨k, _, rfl⟩ := hv
    have : k % 2 = 0 ∨ k % 2 = 1 := by omega
    rcases this with h | h
    · show ((#[Value.pointer none, Value.int .i64 0] : Array Value)[k % 2]!).oneCell' = true
      rw [h]; rfl
    · show ((#[Value.pointer none, Value.int .i64 0] : Array Value)[k % 2]!).oneCell' = true
      rw [h]; rfl
  have hst := run_storeCells_at Try.prog g (q * 2) 105 zs.toList 0 cur w hg (by simp [hzl]; omega) hz1
  simp only [Nat.add_zero] at hst
  obtain ⟨m, rfl⟩ : ∃ m, n = m + 1 := ⟨n - 1, by omega⟩
  refine ⟨(cur.toList.take (q * 2) ++ zs.toList ++ cur.toList.drop (q * 2 + zs.toList.length)).toArray, ?_, ?_, ?_⟩
  · simp only [Builtin.clear_]
    simp [run_underlying Try.underlying86, hz, Value.cells, hzs, hst, Result.andThen]
  · simp [hzl]
    omega
  · intro p hp
    have h1 : p < (cur.toList.take (q * 2)).length := by simp; omega
    rw [List.getElem?_toArray, List.append_assoc, List.getElem?_append_left h1, List.getElem?_take_of_lt hp, Array.getElem?_toList]

theorem keepL_take (i : Nat) (l : List (Nat × Nat)) (k : Nat) (h : k < l.length) : keepL i (l.take (k + 1)) = keepL i (l.take k) ++ (if l[k].1 = i then [] else [l[k]]) := by
  unfold keepL
  rw [List.take_succ_eq_append_getElem h, List.filter_append]
  congr 1
  by_cases e : l[k].1 = i <;> simp [e]
theorem keepL_len (i : Nat) (l : List (Nat × Nat)) (k : Nat) : (keepL i (l.take k)).length ≤ k := Nat.le_trans (List.length_filter_le _ _) (by simp; omega)
theorem keepL_first (i : Nat) (l : List (Nat × Nat)) : keepL i (l.take (firstOf i l)) = l.take (firstOf i l) := by
  unfold keepL
  rw [List.filter_eq_self]
  intro p hp
  obtain ⟨k, hk, rfl⟩ := List.getElem_of_mem hp
  rw [List.length_take] at hk
  rw [List.getElem_take]
  have := List.not_of_lt_findIdx (xs := l) (p := fun p => p.1 == i) (i := k) (by have : firstOf i l = List.findIdx (fun p => p.1 == i) l := rfl; omega)
  simpa using this
theorem keepL_none (i : Nat) (l : List (Nat × Nat)) (h : ¬ firstOf i l < l.length) : keepL i l = l := by
  have := firstOf_le i l
  have e : firstOf i l = l.length := by omega
  have h2 := keepL_first i l
  rw [e, List.take_length] at h2
  exact h2
theorem looseCells_append (a b : List (Nat × Nat)) : looseCells (a ++ b) = looseCells a ++ looseCells b := by simp [looseCells]
theorem looseCells_take (l : List (Nat × Nat)) (n p : Nat) (h : p < n * 2) : (looseCells (l.take n))[p]? = (looseCells l)[p]? := by
  by_cases hn : n ≤ l.length
  · have e : looseCells l = looseCells (l.take n) ++ looseCells (l.drop n) := by rw [← looseCells_append, List.take_append_drop]
    rw [e, List.getElem?_append_left]
    rw [looseCells_length, List.length_take]
    omega
  · rw [List.take_of_length_le (by omega)]

/-- the row of writes while DeleteFunc goes through it: k are looked at -/
structure DelAt (wr w : World) (g cap : Nat) (i : Nat) (l : List (Nat × Nat)) (k : Nat) (cur : Array Value) : Prop where
  heap : wr.heap[g]? = some (.cells cur 105 (0, 0))
  size : cur.size = cap * 2
  kept : ∀ p, p < (keepL i (l.take k)).length * 2 → cur[p]? = (looseCells (keepL i (l.take k)))[p]?
  rest : ∀ p, k * 2 ≤ p → p < l.length * 2 → cur[p]? = (looseCells l)[p]?
  grown : w.grownBy wr (some g)

theorem DelAt.step {wr w w' : World} {g cap i : Nat} {l : List (Nat × Nat)} {k : Nat} {cur : Array Value} (h : DelAt wr w g cap i l k cur) (hb : Below wr.heap.size wr w') : DelAt w' w g cap i l k cur :=
  ⟨(hb.block g (Array.getElem?_eq_some_iff.1 h.heap).1).trans h.heap, h.size, h.kept, h.rest, h.grown.trans ⟨hb.os, hb.tape, hb.output, hb.size, fun k hk _ => hb.block k hk⟩⟩

theorem DelAt.drop {wr w : World} {g cap i : Nat} {l : List (Nat × Nat)} {k : Nat} {cur : Array Value} (h : DelAt wr w g cap i l k cur) (hk : keepL i (l.take (k + 1)) = keepL i (l.take k)) : DelAt wr w g cap i l (k + 1) cur :=
  ⟨h.heap, h.size, by rw [hk]; exact h.kept, fun p hp => h.rest p (by omega), h.grown⟩

theorem DelAt.put {wr w : World} {g cap i : Nat} {l : List (Nat × Nat)} {k : Nat} {cur : Array Value} {j x q : Nat} (h : DelAt wr w g cap i l k cur) (hq : q + 1 ≤ k) (hlt : k < l.length) (hqq : (keepL i (l.take k)).length = q) (hk : keepL i (l.take (k + 1)) = keepL i (l.take k) ++ [(j, x)]) (hc : l.length ≤ cap) :
    DelAt ((wr.setCell ⟨g, q * 2, none⟩ (.pointer (some ⟨j, 0, none⟩))).setCell ⟨g, q * 2 + 1, none⟩ (.int .i64 x)) w g cap i l (k + 1) ((cur.setIfInBounds (q * 2) (.pointer (some ⟨j, 0, none⟩))).setIfInBounds (q * 2 + 1) (.int .i64 x)) := by
  refine ⟨setCell_same (setCell_same h.heap), by simp [h.size], fun p hp => ?_, fun p hp hp2 => ?_, (h.grown.trans (setCell_grown _ _ _ _)).trans (setCell_grown _ _ _ _)⟩
  · rw [hk] at hp ⊢
    rw [List.length_append, hqq] at hp
    have hs := h.size
    have hl := looseCells_length (keepL i (l.take k))
    rw [hqq] at hl
    rw [looseCells_append]
    simp only [Array.getElem?_setIfInBounds, Array.size_setIfInBounds]
    by_cases h1 : p = q * 2 + 1
    · subst h1
      rw [if_pos rfl, if_pos (by omega), List.getElem?_append_right (by omega), hl]
      simp [looseCells]
    · rw [if_neg (by omega)]
      by_cases h2 : p = q * 2
      · subst h2
        rw [if_pos rfl, if_pos (by omega), List.getElem?_append_right (by omega), hl]
        simp [looseCells]
      · rw [if_neg (by omega), List.getElem?_append_left (by simp at hp; omega)]
        exact h.kept p (by rw [hqq]; simp at hp; omega)
  · simp only [Array.getElem?_setIfInBounds]
    rw [if_neg (by omega), if_neg (by omega)]
    exact h.rest p (by omega) hp2

def DelPost (w : World) (v : Value) (i : Nat) (l : List (Nat × Nat)) (e : Ending) (w' : World) : Prop :=
  ∃ v', e = .returned v' ∧ v'.ownBlock = v.ownBlock ∧ w'.ownsRow 0 105 2 v' (keepL i l).length (looseCells (keepL i l)) ∧ w.grownBy w' v.ownBlock

set_option maxHeartbeats 1000000 in
theorem delete_any (i cb : Nat) (l : List (Nat × Nat)) (v : Value) (w : World) (hcb : w.cell? ⟨cb, 0, none⟩ = some (.pointer (some ⟨i, 0, none⟩))) (hrow : w.ownsRow 0 105 2 v l.length (looseCells l)) (hlen : l.length ≤ 16777216)
    (hi : IsCells w i) (hin : ∀ p ∈ l, IsCells w p.1) (hne : ∀ g, v.ownBlock = some g → g ≠ cb ∧ g ≠ i ∧ ∀ p ∈ l, p.1 ≠ g) : Calls Try.prog 90 #[v, delF cb] w (DelPost w v i l) := by
  have hidx := index_any i cb l v w hcb hrow hlen hi hin
  have Hidx := Lib.hid hidx
  by_cases hf : firstOf i l < l.length
  · have hfi : firstI i l = (firstOf i l : Int) := by unfold firstI; rw [if_pos hf]
    rcases hrow.2 with ⟨rfl, h0⟩ | ⟨g, cap, cur, rfl, _, hg, hc, hcm, hcs, htk⟩
    · omega
    · obtain ⟨hn1, hn2, hn3⟩ := hne g rfl
      have hglt := (Array.getElem?_eq_some_iff.1 hg).1
      have hcl : cb < w.heap.size := World.block_lt_of_cell? w _ hcb
      have Hc := Lib.hid hcb
      have Hi := Lib.hid hi
      have Hin := Lib.hid hin
      have Hfi := Lib.hid hfi
      have Hn3 := Lib.hid hn3
      have hfirst : l[firstOf i l].1 = i := by
        have h := List.findIdx_getElem (xs := l) (p := fun p : Nat × Nat => p.1 == i) (w := hf)
        exact of_decide_eq_true h
      have hk0 : keepL i (l.take (firstOf i l + 1)) = l.take (firstOf i l) := by rw [keepL_take i l _ hf, if_pos hfirst, List.append_nil, keepL_first]
      have hd0 : DelAt w w g cap i l (firstOf i l + 1) cur := ⟨hg, hcs, fun p hp => by
          rw [hk0] at hp ⊢
          rw [List.length_take] at hp
          rw [looseCells_take _ _ _ (by omega), ← htk, List.getElem?_take_of_lt (by omega), Array.getElem?_toList], fun p _ hp => by rw [← htk, List.getElem?_take_of_lt hp, Array.getElem?_toList], ⟨rfl, rfl, rfl, Nat.le_refl _, fun _ _ _ => rfl⟩⟩
      have hq0 : (keepL i (l.take (firstOf i l + 1))).length = firstOf i l := by rw [hk0, List.length_take]; omega
      have Hd0 := Lib.hid hd0
      have Hq0 := Lib.hid hq0
      generalize hn0 : firstOf i l = n0 at *
      have Hn0 := Lib.hid hn0
      clear hidx hrow hcb hi hin hne hfi hn0 hfirst hk0 hd0 hq0 hg hcs htk hn3
      have hn1' : ((n0 : Int) == -1) = false := by
        rw [beq_eq_false_iff_ne]
        omega
      unfold delF
      go_enter Try.func90, Try.ntmps90
      go_wp2_with fail
      refine Hidx.out.mono ?_
      rintro e w0 ⟨rfl, hb0⟩
      rw [Hfi.out]
      go_wp2_with fail
      go_loopw [5, 6] (fun x y wr => ∃ (k : Nat) (cur' : Array Value), k ≤ l.length ∧ (keepL i (l.take k)).length + 1 ≤ k ∧ y = .int .i64 k ∧ x = .int .i64 ((keepL i (l.take k)).length : Nat) ∧ DelAt wr w g cap i l k cur') (fun _ y _ => l.length - (intOf y).toNat)
      case atStart => exact ⟨n0 + 1, cur, by omega, by rw [Hq0.out]; exact Nat.le_refl _, by go_num, by rw [Hq0.out], Hd0.out.step hb0⟩
      case round =>
        obtain ⟨k, cur', hk, hq, rfl, rfl, hdel⟩ := hrel
        by_cases hlt : k < l.length
        · obtain ⟨g0, g1⟩ := looseCells_get l k hlt
          obtain ⟨j, x, hix⟩ : ∃ i x, l[k] = (i, x) := ⟨_, _, rfl⟩
          rw [hix] at g0 g1
          have hkt := keepL_take i l k hlt
          rw [hix] at hkt
          have d0 : wr.cell? ⟨g, k * 2, none⟩ = some (.pointer (some ⟨j, 0, none⟩)) := by rw [cell_of hdel.heap, hdel.rest _ (by omega) (by omega), g0]
          have d1 : wr.cell? ⟨g, k * 2 + 1, none⟩ = some (.int .i64 x) := by rw [cell_of hdel.heap, hdel.rest _ (by omega) (by omega), g1]
          have hmem : (j, x) ∈ l := by rw [← hix]; exact List.getElem_mem hlt
          have Hix := Lib.hid hix
          have Hkt := Lib.hid hkt
          have Hdel := Lib.hid hdel
          clear g0 g1 hix hkt hdel
          generalize hqq : (keepL i (l.take k)).length = q at *
          have Hqq := Lib.hid hqq
          clear hqq
          have hcb1 : wr.cell? ⟨cb, 0, none⟩ = some (.pointer (some ⟨i, 0, none⟩)) := Hdel.out.grown.cell Hc.out (by simp; omega)
          have hi1 : IsCells wr i := Hi.out.block (Hdel.out.grown.block i Hi.out.lt (by simp; omega))
          have hj1 : IsCells wr j := (Hin.out _ hmem).block (Hdel.out.grown.block j (Hin.out _ hmem).lt (by have := Hn3.out _ hmem; simp; omega))
          have Hcall := Lib.hid (del_any i j x cb (wr.alloc (.cells #[.pointer (some ⟨j, 0, none⟩), .int .i64 x] 105)) (cell_alloc hcb1) (hi1.alloc _) (hj1.alloc _))
          clear hcb1 hi1 hj1
          have hgl : g < wr.heap.size := (Array.getElem?_eq_some_iff.1 Hdel.out.heap).1
          go_wp2_with fail
          refine Hcall.out.mono ?_
          rintro e w2 ⟨rfl, hb⟩
          have hb2 : Below wr.heap.size wr w2 := ((Below.refl _ wr).alloc (Nat.le_refl _) _).trans (hb.mono (by simp))
          have Hdel2 := Lib.hid (Hdel.out.step hb2)
          have hv := (hb.block wr.heap.size (by simp)).trans (heap_alloc_new wr _)
          have e0 : w2.cell? ⟨wr.heap.size, 0, none⟩ = some (.pointer (some ⟨j, 0, none⟩)) := by rw [cell_of hv]; rfl
          have e1 : w2.cell? ⟨wr.heap.size, 1, none⟩ = some (.int .i64 x) := by rw [cell_of hv]; rfl
          clear hv d0 d1
          by_cases hji : j = i
          · have ht : (j == i) = true := by simpa using hji
            rw [ht]
            have hkt : keepL i (l.take (k + 1)) = keepL i (l.take k) := by rw [Hkt.out, if_pos hji, List.append_nil]
            have Hk1 := Lib.hid hkt
            clear hkt hji ht
            go_wp2
            go_roundw
            case rel => exact ⟨k + 1, cur', by omega, by rw [Hk1.out, Hqq.out]; omega, by go_num, by rw [Hk1.out, Hqq.out], Hdel2.out.drop Hk1.out⟩
            case measure => simp [intOf]; omega
          · have ht : (j == i) = false := by simpa using hji
            rw [ht]
            have hkt : keepL i (l.take (k + 1)) = keepL i (l.take k) ++ [(j, x)] := by rw [Hkt.out, if_neg hji]
            have Hk1 := Lib.hid hkt
            obtain ⟨o0, f0⟩ : ∃ u, w2.cell? ⟨g, q * 2, none⟩ = some u := ⟨_, by rw [cell_of Hdel2.out.heap]; exact Array.getElem?_eq_getElem (by rw [Hdel2.out.size]; omega)⟩
            obtain ⟨o1, f1⟩ : ∃ u, w2.cell? ⟨g, q * 2 + 1, none⟩ = some u := ⟨_, by rw [cell_of Hdel2.out.heap]; exact Array.getElem?_eq_getElem (by rw [Hdel2.out.size]; omega)⟩
            have z0 : w2.frozen? ⟨g, q * 2, none⟩ = false := free_of Hdel2.out.heap _
            have z1 : w2.frozen? ⟨g, q * 2 + 1, none⟩ = false := free_of Hdel2.out.heap _
            clear hkt hji ht
            go_wp2
            go_roundw
            case rel => exact ⟨k + 1, _, by omega, by rw [Hk1.out, List.length_append, Hqq.out]; simp; omega, by go_num, by rw [Hk1.out, List.length_append, Hqq.out]; go_num, Hdel2.out.put hq hlt Hqq.out Hk1.out hc⟩
            case measure => simp [intOf]; omega
        · have hkl : k = l.length := by omega
          subst hkl
          rw [List.take_length] at hq ⊢
          obtain ⟨cs, hclr, hcsz, hcs⟩ := run_clear_row wr 0 g (keepL i l).length (l.length - (keepL i l).length) (cap - (keepL i l).length) cur' hdel.heap (by omega) (by rw [hdel.size]; omega)
          have Hdel := Lib.hid hdel
          have Hcs := Lib.hid hcs
          have Hcsz := Lib.hid hcsz
          clear hdel hcs hcsz
          generalize hqq : (keepL i l).length = q at *
          have Hqq := Lib.hid hqq
          clear hqq
          go_wp2
          go_ret
          refine ⟨_, rfl, rfl, ?_, Hdel.out.grown.trans (setRow_grown _ _ _)⟩
          rw [Hqq.out]
          refine ⟨by rw [looseCells_length, Hqq.out], Or.inr ⟨g, cap, cs, rfl, Nat.zero_le _, setRow_same Hdel.out.heap, by omega, hcm, by rw [Hcsz.out, Hdel.out.size], ?_⟩⟩
          apply List.ext_getElem?
          intro p
          by_cases hp : p < q * 2
          · rw [List.getElem?_take_of_lt hp, Array.getElem?_toList, Hcs.out p hp]
            have := Hdel.out.kept p (by rw [List.take_length, Hqq.out]; exact hp)
            rw [List.take_length] at this
            exact this
          · rw [List.getElem?_eq_none (by simp; omega), List.getElem?_eq_none (by rw [looseCells_length, Hqq.out]; omega)]
  · have hfi : firstI i l = -1 := by unfold firstI; rw [if_neg hf]
    obtain ⟨A, c, rfl, hc⟩ := ownsRow_slice hrow
    have hkeep := keepL_none i l hf
    have Hkeep := Lib.hid hkeep
    have Hrow := Lib.hid hrow
    have Hfi := Lib.hid hfi
    clear hidx hrow hcb hi hin hne hfi hkeep
    unfold delF
    go_enter Try.func90, Try.ntmps90
    go_wp2_with fail
    refine Hidx.out.mono ?_
    rintro e w0 ⟨rfl, hb0⟩
    rw [Hfi.out]
    go_wp2
    go_ret
    refine ⟨_, rfl, rfl, ?_, grown_of_below hb0 _⟩
    rw [Hkeep.out]
    exact ownsRow_block Hrow.out fun g hg => hb0.block g (Hrow.out.lt g hg).2
end Go.Proofs.Ytkefciacdmbidaa

namespace Go.Proofs.Ytkefciacdmbidaa
open Go.RowKit Go.WideMaps Go.Maps

/-- w' is w but for new blocks and for blocks that may turn -/
structure Same (keep : Nat → Prop) (w w' : World) : Prop where
  os : w'.os = w.os
  tape : w'.tape = w.tape
  output : w'.output = w.output
  size : w.heap.size ≤ w'.heap.size
  block : ∀ k, k < w.heap.size → keep k → w'.heap[k]? = w.heap[k]?

theorem Same.refl (keep : Nat → Prop) (w : World) : Same keep w w := ⟨rfl, rfl, rfl, Nat.le_refl _, fun _ _ _ => rfl⟩
theorem Same.trans {keep : Nat → Prop} {w w' w'' : World} (h : Same keep w w') (h' : Same keep w' w'') : Same keep w w'' :=
  ⟨h'.os.trans h.os, h'.tape.trans h.tape, h'.output.trans h.output, Nat.le_trans h.size h'.size, fun k hk hp => (h'.block k (Nat.lt_of_lt_of_le hk h.size) hp).trans (h.block k hk hp)⟩
theorem Same.mono {keep keep' : Nat → Prop} {w w' : World} (h : Same keep w w') (hk : ∀ k, k < w.heap.size → keep' k → keep k) : Same keep' w w' :=
  ⟨h.os, h.tape, h.output, h.size, fun k hlt hp => h.block k hlt (hk k hlt hp)⟩
theorem Same.of_grown {w w' : World} {row : Option Nat} (h : w.grownBy w' row) : Same (fun k => some k ≠ row) w w' := ⟨h.os, h.tape, h.output, h.size, h.block⟩
theorem Same.of_below {w w' : World} (h : Below w.heap.size w w') (keep : Nat → Prop) : Same keep w w' := ⟨h.os, h.tape, h.output, h.size, fun k hk _ => h.block k hk⟩
theorem Same.setCell (w : World) (g o : Nat) (v : Value) : Same (fun k => k ≠ g) w (w.setCell ⟨g, o, none⟩ v) := (Same.of_grown (setCell_grown w g o v)).mono fun k _ h e => h (by cases e; rfl)
theorem Same.alloc (w : World) (o : Obj) (keep : Nat → Prop) : Same keep w (w.alloc o) := ⟨rfl, rfl, rfl, by simp, fun k hk _ => Below.heap_alloc w o k hk⟩

theorem FileAt.cells {role : Nat → Nat} {w : World} {f : SF} (h : FileAt role w f) : IsCells w f.id := by
  obtain ⟨_, dv, _, h, _⟩ := h
  exact ⟨_, _, h⟩

theorem upd_of {role role' : Nat → Nat} {w w' : World} (hs : Same (fun k => role k = 0) w w') (hr : ∀ k, k < w.heap.size → role k = 0 → role' k = 0) : Upd (fun k => role k ≠ 0) (fun k => role' k ≠ 0) w w' where
  os := hs.os
  tape := hs.tape
  output := hs.output
  size := hs.size
  block k hk hF := hs.block k hk (by simpa using hF)
  sub k hk := by
    rcases Nat.lt_or_ge k w.heap.size with h | h
    · exact Or.inl fun h0 => hk (hr k h h0)
    · exact Or.inr h

theorem Upd.congr {F F' G G' : Nat → Prop} {w w' : World} (h : Upd F F' w w') (h1 : ∀ k, F k ↔ G k) (h2 : ∀ k, G' k ↔ F' k) : Upd G G' w w' :=
  ⟨h.os, h.tape, h.output, h.size, fun k hk hG => h.block k hk fun hF => hG ((h1 k).1 hF), fun k hk => (h.sub k ((h2 k).1 hk)).imp (h1 k).1 id⟩

theorem DiskIn.setLoose {role : Nat → Nat} {w w1 : World} {d m : Nat} {lv lv' : Value} {S : SD} {l : List (Nat × Nat)} (h : DiskIn role w d m lv S) (hs : w.heap.size ≤ w1.heap.size) (hb : ∀ k, k < w.heap.size → role k ≠ 3 → w1.heap[k]? = w.heap[k]?)
    (hr : ∀ g, lv'.ownBlock = some g → role g = 3) (hrow : w1.ownsRow 0 105 2 lv' l.length (looseCells l)) : DiskIn role (w1.setCell ⟨d, 1, none⟩ lv') d m lv' { S with loose := l } where
  lt k hk := by
    have := h.lt k hk
    simp [World.setCell]
    omega
  rd := h.rd
  rm := h.rm
  rl := hr
  disk := by
    have := (hb d (h.lt d (by rw [h.rd]; decide)) (by rw [h.rd]; decide)).trans h.disk
    rw [setCell_same this]
    rfl
  map := by
    have hlt := h.lt m (by rw [h.rm]; decide)
    refine h.map.block ((Below.heap_setCell _ _ _ _ ?_).trans (hb m hlt (by rw [h.rm]; decide)))
    intro e
    have := h.rm
    rw [show m = d from e, h.rd] at this
    cases this
  loose := ownsRow_block hrow fun g hg => Below.heap_setCell _ _ _ _ (by
    intro e
    have := hr g hg
    rw [show g = d from e, h.rd] at this
    cases this)
  file p hp := (h.file p hp).keep (fun _ _ => rfl) fun k hk => by
    have h0 : role k ≠ 0 := by omega
    refine (Below.heap_setCell _ _ _ _ ?_).trans (hb k (h.lt k h0) (by omega))
    intro e
    rw [show k = d from e, h.rd] at hk
    omega

def ForgetPost (role : Nat → Nat) (w : World) (d m : Nat) (S : SD) (i : Nat) (e : Ending) (w' : World) : Prop :=
  e = .returned (.tuple #[]) ∧ ∃ lv', DiskIn role w' d m lv' { S with loose := keepL i S.loose } ∧ Same (fun k => k ≠ d ∧ role k ≠ 3) w w'

theorem forget_any {role : Nat → Nat} {w : World} {d m : Nat} {lv : Value} {S : SD} (hd : DiskIn role w d m lv S) (i : Nat) (hi : IsCells w i) (hid : role i ≠ 3) (hin : ∀ p ∈ S.loose, role p.1 = 4 ∧ IsCells w p.1) (hlen : S.loose.length ≤ 16777216) :
    Calls Try.prog 78 #[.pointer (some ⟨d, 0, none⟩), .pointer (some ⟨i, 0, none⟩)] w (ForgetPost role w d m S i) := by
  have hdl := hd.lt d (by rw [hd.rd]; decide)
  have c1 : (w.alloc (.cells #[.pointer (some ⟨i, 0, none⟩)] 101)).cell? ⟨d, 1, none⟩ = some lv := cell_alloc hd.c1
  have hdel := delete_any i w.heap.size S.loose lv (w.alloc (.cells #[.pointer (some ⟨i, 0, none⟩)] 101)) (by rw [cell_of (heap_alloc_new w _)]; rfl) (hd.loose.alloc _) hlen (hi.alloc _) (fun p hp => (hin p hp).2.alloc _) (fun g hg => by
    have h1 := hd.rl g hg
    have h2 := hd.lt g (by rw [h1]; decide)
    refine ⟨by omega, fun e => hid (by rw [← e]; exact h1), fun p hp e => ?_⟩
    have := (hin p hp).1
    rw [e] at this
    omega)
  have Hdel := Lib.hid hdel
  have Hd := Lib.hid hd
  clear hdel hd hin hi
  unfold delF at Hdel
  go_enter Try.func78, Try.ntmps78
  go_wp2_with fail
  refine Hdel.out.mono ?_
  rintro e w1 ⟨lv', rfl, hob, hrow, hgr⟩
  have hblk : ∀ k, k < w.heap.size → role k ≠ 3 → w1.heap[k]? = w.heap[k]? := fun k hk h3 =>
    (hgr.block k (by simp; omega) (fun e => h3 (Hd.out.rl k e.symm))).trans (Below.heap_alloc w _ k hk)
  have hb := (hblk d hdl (by rw [Hd.out.rd]; decide)).trans Hd.out.disk
  have c2 : w1.cell? ⟨d, 1, none⟩ = some lv := by rw [cell_of hb]; rfl
  have z2 : w1.frozen? ⟨d, 1, none⟩ = false := free_of hb _
  have Hob := Lib.hid hob
  have Hrow := Lib.hid hrow
  have Hgr := Lib.hid hgr
  have Hblk := Lib.hid hblk
  have Hb := Lib.hid hb
  obtain ⟨A, c, hlv, -⟩ := ownsRow_slice hrow
  clear hob hrow hgr hblk hb
  subst hlv
  go_wp2
  go_end0
  refine ⟨rfl, _, Hd.out.setLoose (w1 := w1) (Nat.le_trans (by simp) Hgr.out.size) Hblk.out (fun g hg => Hd.out.rl g (Hob.out ▸ hg)) Hrow.out, ?_⟩
  refine Same.trans (w' := w1) ⟨Hgr.out.os, Hgr.out.tape, Hgr.out.output, Nat.le_trans (by simp) Hgr.out.size, fun k hk h => Hblk.out k hk h.2⟩ ((Same.setCell w1 d 1 _).mono fun k _ h => h.1)
end Go.Proofs.Ytkefciacdmbidaa

namespace Go.Proofs.Ytkefciacdmbidaa
open Go.RowKit Go.WideMaps Go.Maps

def updF (i : Nat) (g : SF → SF) (L : List (List UInt8 × SF)) : List (List UInt8 × SF) := L.map fun p => if p.2.id = i then (p.1, g p.2) else p

theorem updF_idp {i : Nat} {g : SF → SF} {L : List (List UInt8 × SF)} (h : ∀ p ∈ L, p.2.id = i → (g p.2).id = i) : (updF i g L).map idp = L.map idp := by
  unfold updF
  rw [List.map_map]
  apply List.map_congr_left
  intro p hp
  by_cases e : p.2.id = i
  · simp [idp, e, h p hp e]
  · simp [idp, e]

theorem FileAt.keep' {role role' : Nat → Nat} {w w' : World} {f : SF} (h : FileAt role w f) (hr : ∀ k, k = f.id ∨ role k = 5 + f.id → role' k = role k) (hb : ∀ k, k = f.id ∨ role k = 5 + f.id → w'.heap[k]? = w.heap[k]?) : FileAt role' w' f := by
  obtain ⟨h1, dv, h2, h3, h4⟩ := h
  refine ⟨(hr _ (Or.inl rfl)).trans h1, dv, fun g hg => (hr _ (Or.inr (h2 g hg))).trans (h2 g hg), (hb _ (Or.inl rfl)).trans h3, ownsRow_block h4 fun g hg => hb g (Or.inr (h2 g hg))⟩

theorem DiskIn.setFile {role role' : Nat → Nat} {w w' : World} {d m : Nat} {lv : Value} {S : SD} (h : DiskIn role w d m lv S) {f f' : SF} (hf : role f.id = 4) (hid : f'.id = f.id)
    (hr : ∀ k, role k ≠ 0 → role' k = role k) (hlt : ∀ k, role' k ≠ 0 → k < w'.heap.size) (hb : ∀ k, k < w.heap.size → k ≠ f.id → role k ≠ 5 + f.id → w'.heap[k]? = w.heap[k]?) (hfile : FileAt role' w' f') :
    DiskIn role' w' d m lv { S with files := updF f.id (fun _ => f') S.files } where
  lt := hlt
  rd := (hr d (by rw [h.rd]; decide)).trans h.rd
  rm := (hr m (by rw [h.rm]; decide)).trans h.rm
  rl g hg := (hr g (by rw [h.rl g hg]; decide)).trans (h.rl g hg)
  disk := (hb d (h.lt d (by rw [h.rd]; decide)) (fun e => by rw [← e, h.rd] at hf; cases hf) (by rw [h.rd]; omega)).trans h.disk
  map := by
    have e : SD.ids { S with files := updF f.id (fun _ => f') S.files } = S.ids := updF_idp (g := fun _ => f') fun _ _ _ => hid
    rw [e]
    exact h.map.block (hb m (h.lt m (by rw [h.rm]; decide)) (fun e => by rw [← e, h.rm] at hf; cases hf) (by rw [h.rm]; omega))
  loose := ownsRow_block h.loose fun g hg => hb g (h.lt g (by rw [h.rl g hg]; decide)) (fun e => by rw [← e, h.rl g hg] at hf; cases hf) (by rw [h.rl g hg]; omega)
  file p hp := by
    obtain ⟨q, hq, rfl⟩ := List.mem_map.1 hp
    by_cases e : q.2.id = f.id
    · simp only [e, if_true]
      exact hfile
    · simp only [e, if_false]
      have hq4 := h.file q hq
      refine hq4.keep' (fun k hk => hr k ?_) (fun k hk => ?_)
      · rcases hk with rfl | hk
        · rw [hq4.1]; decide
        · omega
      · rcases hk with rfl | hk
        · exact hb _ (h.lt _ (by rw [hq4.1]; decide)) e (by rw [hq4.1]; omega)
        · exact hb _ (h.lt _ (by omega)) (fun e2 => by rw [e2] at hk; omega) (by omega)

/-- only the block of a file has turned: its safe part, and whether it stays -/
theorem DiskIn.setSafe {role : Nat → Nat} {w : World} {d m : Nat} {lv : Value} {S : SD} (h : DiskIn role w d m lv S) {k : List UInt8} {f : SF} (hf : (k, f) ∈ S.files) (w' : World) (n : Nat) (b : Bool) (hs : w.heap.size ≤ w'.heap.size)
    (hb : ∀ k, k < w.heap.size → k ≠ f.id → w'.heap[k]? = w.heap[k]?) (hc : ∀ dv, w.heap[f.id]? = some (.cells #[dv, .int .i64 f.safe, .bool f.stays] 103 (0, 0)) → w'.heap[f.id]? = some (.cells #[dv, .int .i64 n, .bool b] 103 (0, 0))) :
    DiskIn role w' d m lv { S with files := updF f.id (fun _ => { f with safe := n, stays := b }) S.files } := by
  obtain ⟨h1, dv, h2, h3, h4⟩ := h.file _ hf
  refine h.setFile h1 rfl (fun _ _ => rfl) (fun k hk => Nat.lt_of_lt_of_le (h.lt k hk) hs) (fun k hk hne _ => hb k hk hne) ⟨h1, dv, h2, hc dv h3, ownsRow_block h4 fun g hg => hb g (h.lt g (by rw [h2 g hg]; omega)) (fun e => by have := h2 g hg; rw [e, h1] at this; omega)⟩

def SD.sync (S : SD) (nm : List UInt8) : SD :=
  match getF nm S.files with
  | none => S
  | some f => { S with files := updF f.id (fun _ => { f with safe := f.data.length, stays := true }) S.files, loose := keepL f.id S.loose }

def errOf (S : SD) (nm : List UInt8) : Int := if (getF nm S.files).isSome then 0 else 12

/-- a call on a disk that answers a number -/
def DiskPost (F : Nat → Prop) (w : World) (d : Nat) (n : Int) (S' : SD) (e : Ending) (w' : World) : Prop :=
  e = .returned (.int .i64 n) ∧ ∃ F', DiskAt F' w' d S' ∧ Upd F F' w w'

theorem SD.Ok.looseCells {S : SD} (hok : S.Ok) {role : Nat → Nat} {w : World} {d m : Nat} {lv : Value} (hd : DiskIn role w d m lv S) : ∀ p ∈ S.loose, role p.1 = 4 ∧ IsCells w p.1 := by
  intro p hp
  obtain ⟨q, hq, e⟩ := hok.looseIn p hp
  rw [← e]
  exact ⟨(hd.file q hq).1, (hd.file q hq).cells⟩

theorem IsCells.setCell {w : World} {k : Nat} (h : IsCells w k) (g o : Nat) (v : Value) : IsCells (w.setCell ⟨g, o, none⟩ v) k := by
  by_cases e : k = g
  · subst e
    obtain ⟨cs, t, h⟩ := h
    exact ⟨_, _, setCell_same h⟩
  · exact h.block (Below.heap_setCell _ _ _ _ e)

theorem sync_any {F : Nat → Prop} {d : Nat} {S : SD} {w : World} (hd : DiskAt F w d S) (hok : S.Ok) (hlen : S.loose.length ≤ 16777216) (nm : ByteArray) (hn : nm.size ≤ maxLen) :
    Calls Try.prog 50 #[.pointer (some ⟨d, 0, none⟩), .string nm] w (DiskPost F w d (errOf S nm.data.toList) (S.sync nm.data.toList)) := by
  have hdat := hd
  obtain ⟨role, m, lv, hd, hF⟩ := hd
  have c0 := hd.c0
  have hlk := SD.lookup hd.map nm hn
  cases hg : getF nm.data.toList S.files with
  | none =>
    rw [hg] at hlk
    have hlk' : (Instr.lookup 85 (.map (some m)) (.string nm) false).run Try.prog w = .ok (.pointer none) w := hlk
    have Hg := Lib.hid hg
    have Hdat := Lib.hid hdat
    clear hd hok hlk hg hn hlen hF hdat
    go_enter Try.func50, Try.ntmps50
    go_wp2
    go_ret
    refine ⟨ret_int (by unfold errOf; rw [Hg.out]; rfl), F, ?_, Upd.of_below (Below.refl _ _)⟩
    unfold SD.sync
    rw [Hg.out]
    exact Hdat.out
  | some f =>
    rw [hg] at hlk
    have hlk' : (Instr.lookup 85 (.map (some m)) (.string nm) false).run Try.prog w = .ok (.pointer (some ⟨f.id, 0, none⟩)) w := hlk
    have hmem := getF_some hg
    obtain ⟨h4, dv, -, hb, hrow⟩ := hd.file _ hmem
    obtain ⟨A, c, rfl, hcap⟩ := ownsRow_slice hrow
    have f0 : w.cell? ⟨f.id, 0, none⟩ = some (.slice A f.data.length c) := by rw [cell_of hb]; rfl
    have f1 : w.cell? ⟨f.id, 1, none⟩ = some (.int .i64 f.safe) := by rw [cell_of hb]; rfl
    have f2 : w.cell? ⟨f.id, 2, none⟩ = some (.bool f.stays) := by rw [cell_of hb]; rfl
    have z1 : w.frozen? ⟨f.id, 1, none⟩ = false := free_of hb _
    have z2 : w.frozen? ⟨f.id, 2, none⟩ = false := free_of hb _
    have Hg := Lib.hid hg
    have Hd := Lib.hid hd
    have Hok := Lib.hid hok
    have Hb := Lib.hid hb
    have Hm := Lib.hid hmem
    have H4 := Lib.hid h4
    have HF := Lib.hid hF
    clear hd hok hlk hg hn hb hrow hF hmem h4
    go_enter Try.func50, Try.ntmps50
    have hd1 := Hd.out.setSafe Hm.out ((w.setCell ⟨f.id, 1, none⟩ (.int .i64 f.data.length)).setCell ⟨f.id, 2, none⟩ (.bool true)) f.data.length true (by simp [World.setCell])
      (fun k hk hne => (Below.heap_setCell _ _ _ _ hne).trans (Below.heap_setCell _ _ _ _ hne)) (fun dv hdv => by rw [setCell_same (setCell_same hdv)]; rfl)
    have hcall := forget_any hd1 f.id ⟨_, _, setCell_same (setCell_same Hb.out)⟩ (by rw [H4.out]; decide) (fun p hp => ⟨(Hok.out.looseCells Hd.out p hp).1, ((Hok.out.looseCells Hd.out p hp).2.setCell _ _ _).setCell _ _ _⟩) hlen
    have Hcall := Lib.hid hcall
    clear hd1 hcall hlen
    go_wp2_with fail
    refine Hcall.out.mono ?_
    rintro e w2 ⟨rfl, lv', hd2, hs2⟩
    have Hd2 := Lib.hid hd2
    have Hs2 := Lib.hid hs2
    clear hd2 hs2
    go_wp2
    go_ret
    refine ⟨ret_int (by unfold errOf; rw [Hg.out]; rfl), F, ⟨role, m, lv', ?_, HF.out⟩, ?_⟩
    · unfold SD.sync
      rw [Hg.out]
      exact Hd2.out
    · refine (upd_of (role := role) (role' := role) ?_ (fun _ _ h => h)).congr (fun k => (HF.out k).symm) (fun k => HF.out k)
      have h1 : Same (fun k => role k = 0) w ((w.setCell ⟨f.id, 1, none⟩ (.int .i64 f.data.length)).setCell ⟨f.id, 2, none⟩ (.bool true)) :=
        ((Same.setCell w f.id 1 _).trans (Same.setCell _ f.id 2 _)).mono fun k _ h e => by rw [e, H4.out] at h; cases h
      exact h1.trans (Hs2.out.mono fun k _ h => ⟨fun e => (by rw [e, Hd.out.rd] at h; cases h), by rw [h]; decide⟩)
end Go.Proofs.Ytkefciacdmbidaa

namespace Go.Proofs.Ytkefciacdmbidaa
open Go.RowKit Go.WideMaps Go.Maps

theorem DiskIn.setMap {role : Nat → Nat} {w w' : World} {d m : Nat} {lv : Value} {S : SD} (h : DiskIn role w d m lv S) (hs : w.heap.size ≤ w'.heap.size) (hb : ∀ k, k < w.heap.size → k ≠ m → w'.heap[k]? = w.heap[k]?)
    {L : List (List UInt8 × SF)} (hm : MapIs w' m (L.map idp)) (hL : ∀ p ∈ L, FileAt role w p.2) : DiskIn role w' d m lv { S with files := L } where
  lt k hk := Nat.lt_of_lt_of_le (h.lt k hk) hs
  rd := h.rd
  rm := h.rm
  rl := h.rl
  disk := (hb d (h.lt d (by rw [h.rd]; decide)) (fun e => by have := h.rd; rw [e, h.rm] at this; cases this)).trans h.disk
  map := hm
  loose := ownsRow_block h.loose fun g hg => hb g (h.lt g (by rw [h.rl g hg]; decide)) (fun e => by have := h.rl g hg; rw [e, h.rm] at this; cases this)
  file p hp := by
    have h4 := (hL p hp).1
    refine (hL p hp).keep (fun _ _ => rfl) fun k hk => hb k (h.lt k (by omega)) (fun e => by rw [e, h.rm] at hk; omega)

def SD.remove (S : SD) (nm : List UInt8) : SD :=
  match getF nm S.files with
  | none => S
  | some f => { S with files := ers nm S.files, loose := keepL f.id S.loose }

def RemovePost (role : Nat → Nat) (w : World) (d m : Nat) (n : Int) (S' : SD) (e : Ending) (w' : World) : Prop :=
  e = .returned (.int .i64 n) ∧ ∃ lv', DiskIn role w' d m lv' S' ∧ Same (fun k => k ≠ d ∧ k ≠ m ∧ role k ≠ 3) w w'

theorem remove_in {role : Nat → Nat} {d m : Nat} {lv : Value} {S : SD} {w : World} (hd : DiskIn role w d m lv S) (hin : ∀ p ∈ S.loose, role p.1 = 4 ∧ IsCells w p.1) (hlen : S.loose.length ≤ 16777216) (nm : ByteArray) (hn : nm.size ≤ maxLen) :
    Calls Try.prog 51 #[.pointer (some ⟨d, 0, none⟩), .string nm] w (RemovePost role w d m (errOf S nm.data.toList) (S.remove nm.data.toList)) := by
  have c0 := hd.c0
  have hlk := SD.lookup hd.map nm hn
  have Hn := Lib.hid hn
  cases hg : getF nm.data.toList S.files with
  | none =>
    rw [hg] at hlk
    have hlk' : (Instr.lookup 85 (.map (some m)) (.string nm) false).run Try.prog w = .ok (.pointer none) w := hlk
    have Hg := Lib.hid hg
    have Hd := Lib.hid hd
    clear hd hlk hg hn hlen hin
    go_enter Try.func51, Try.ntmps51
    go_wp2
    go_ret
    refine ⟨ret_int (by unfold errOf; rw [Hg.out]; rfl), lv, ?_, Same.refl _ _⟩
    unfold SD.remove
    rw [Hg.out]
    exact Hd.out
  | some f =>
    rw [hg] at hlk
    have hlk' : (Instr.lookup 85 (.map (some m)) (.string nm) false).run Try.prog w = .ok (.pointer (some ⟨f.id, 0, none⟩)) w := hlk
    have hmem := getF_some hg
    have hfile := hd.file _ hmem
    have hmap := hd.map
    have Hg := Lib.hid hg
    have Hd := Lib.hid hd
    have Hm := Lib.hid hmem
    have Hin := Lib.hid hin
    have Hfile := Lib.hid hfile
    have Hlen := Lib.hid hlen
    clear hd hlk hg hn hmem hin hfile hlen
    go_enter Try.func51, Try.ntmps51
    go_wp2_with (first | (at_delete; refine wpList_files_delete _ rfl _ _ rfl hmap nm Hn.out rfl rfl ?_))
    intro w1 hmap1 hg1 hs1
    have hb1 : ∀ k, k < w.heap.size → k ≠ m → w1.heap[k]? = w.heap[k]? := fun k hk hne => hg1.block k hk (fun e => hne (by cases e; rfl))
    have hd1 : DiskIn role w1 d m lv { S with files := ers nm.data.toList S.files } := Hd.out.setMap (by omega) hb1 (by rw [ers_idp]; exact hmap1) (fun p hp => Hd.out.file p (mem_ers.1 hp).1)
    have hne : ∀ k, role k = 4 → k ≠ m := fun k h4 e => by rw [e, Hd.out.rm] at h4; cases h4
    have hcall := forget_any hd1 f.id (Hfile.out.cells.block (hb1 _ Hfile.out.cells.lt (hne _ Hfile.out.1))) (by rw [Hfile.out.1]; decide) (fun p hp => ⟨(Hin.out p hp).1, (Hin.out p hp).2.block (hb1 _ (Hin.out p hp).2.lt (hne _ (Hin.out p hp).1))⟩) Hlen.out
    have Hcall := Lib.hid hcall
    have Hs1 := Lib.hid hs1
    have Hg1 := Lib.hid hg1
    clear hd1 hcall hb1 hg1 hne hs1 hmap1
    go_wp2_with fail
    refine Hcall.out.mono ?_
    rintro e w2 ⟨rfl, lv', hd2, hs2⟩
    have Hd2 := Lib.hid hd2
    have Hs2 := Lib.hid hs2
    clear hd2 hs2
    go_wp2
    go_ret
    refine ⟨ret_int (by unfold errOf; rw [Hg.out]; rfl), lv', ?_, ?_⟩
    · unfold SD.remove
      rw [Hg.out]
      exact Hd2.out
    · exact ((Same.of_grown Hg1.out).mono fun k _ h e => h.2.1 (by cases e; rfl)).trans (Hs2.out.mono fun k _ h => ⟨h.1, h.2.2⟩)

theorem remove_any {F : Nat → Prop} {d : Nat} {S : SD} {w : World} (hd : DiskAt F w d S) (hok : S.Ok) (hlen : S.loose.length ≤ 16777216) (nm : ByteArray) (hn : nm.size ≤ maxLen) :
    Calls Try.prog 51 #[.pointer (some ⟨d, 0, none⟩), .string nm] w (DiskPost F w d (errOf S nm.data.toList) (S.remove nm.data.toList)) := by
  obtain ⟨role, m, lv, hd, hF⟩ := hd
  refine (remove_in hd (hok.looseCells hd) hlen nm hn).mono ?_
  rintro e w' ⟨rfl, lv', hd', hs'⟩
  refine ⟨rfl, F, ⟨role, m, lv', hd', hF⟩, (upd_of (role := role) (role' := role) ?_ (fun _ _ h => h)).congr (fun k => (hF k).symm) (fun k => hF k)⟩
  exact hs'.mono fun k _ h => ⟨fun e => (by rw [e, hd.rd] at h; cases h), fun e => (by rw [e, hd.rm] at h; cases h), by rw [h]; decide⟩
end Go.Proofs.Ytkefciacdmbidaa

namespace Go.Proofs.Ytkefciacdmbidaa
open Go.RowKit Go.WideMaps Go.Maps

def goodName (k : List UInt8) : Bool := decide (1 ≤ k.length ∧ k.length ≤ 16)
theorem rightB_eq (nm : ByteArray) : rightB nm = goodName nm.data.toList := by
  unfold rightB goodName
  have : nm.data.toList.length = nm.size := rfl
  rw [this]

def SD.rename (S : SD) (a b : List UInt8) : Int × SD :=
  if goodName b then
    match getF a S.files with
    | none => (12, S)
    | some f =>
      let S2 := SD.remove { S with files := ers a S.files } b
      (0, { S2 with files := sins (b, { f with stays := true }) (ers b S2.files) })
  else (10, S)

theorem DiskIn.other {role : Nat → Nat} {w w' : World} {d m : Nat} {lv : Value} {S : SD} (h : DiskIn role w d m lv S) {i : Nat} (hi : role i = 4) (hs : w.heap.size ≤ w'.heap.size) (hb : ∀ k, k < w.heap.size → k ≠ i → w'.heap[k]? = w.heap[k]?)
    (hne : ∀ p ∈ S.files, p.2.id ≠ i) : DiskIn role w' d m lv S where
  lt k hk := Nat.lt_of_lt_of_le (h.lt k hk) hs
  rd := h.rd
  rm := h.rm
  rl := h.rl
  disk := (hb d (h.lt d (by rw [h.rd]; decide)) (fun e => by have := h.rd; rw [e, hi] at this; cases this)).trans h.disk
  map := h.map.block (hb m (h.lt m (by rw [h.rm]; decide)) (fun e => by have := h.rm; rw [e, hi] at this; cases this))
  loose := ownsRow_block h.loose fun g hg => hb g (h.lt g (by rw [h.rl g hg]; decide)) (fun e => by have := h.rl g hg; rw [e, hi] at this; cases this)
  file p hp := by
    have h4 := (h.file p hp).1
    refine (h.file p hp).keep' (fun _ _ => rfl) fun k hk => ?_
    rcases hk with rfl | hk
    · exact hb _ (h.lt _ (by rw [h4]; decide)) (hne p hp)
    · exact hb _ (h.lt _ (by omega)) (fun e => by rw [e] at hk; omega)

theorem ids_ne {L : List (List UInt8 × SF)} (hids : L.Pairwise (fun p q => p.2.id ≠ q.2.id)) {p q : List UInt8 × SF} (hp : p ∈ L) (hq : q ∈ L) (h : p.2.id = q.2.id) : p = q := by
  induction L with
  | nil => simp at hp
  | cons x r ih =>
    obtain ⟨h1, h2⟩ := List.pairwise_cons.1 hids
    rcases List.mem_cons.1 hp with rfl | hp
    · rcases List.mem_cons.1 hq with rfl | hq
      · rfl
      · exact absurd h (h1 q hq)
    · rcases List.mem_cons.1 hq with e | hq
      · rw [e] at h ⊢
        exact absurd h.symm (h1 p hp)
      · exact ih h2 hp hq

theorem mem_remove {S : SD} {b : List UInt8} {p : List UInt8 × SF} (h : p ∈ (S.remove b).files) : p ∈ S.files := by
  unfold SD.remove at h
  split at h
  · exact h
  · exact (mem_ers.1 h).1

theorem remove_length (S : SD) (b : List UInt8) : (S.remove b).files.length ≤ S.files.length := by
  unfold SD.remove
  split
  · exact Nat.le_refl _
  · exact ers_length _ _

theorem rename_any {F : Nat → Prop} {d : Nat} {S : SD} {w : World} (hd : DiskAt F w d S) (hok : S.Ok) (hlen : S.loose.length ≤ 16777216) (hlen2 : S.files.length ≤ 16777216) (a b : ByteArray) (ha : a.size ≤ maxLen) (hb : b.size ≤ maxLen) :
    Calls Try.prog 52 #[.pointer (some ⟨d, 0, none⟩), .string a, .string b] w (DiskPost F w d (S.rename a.data.toList b.data.toList).1 (S.rename a.data.toList b.data.toList).2) := by
  have hdat := hd
  obtain ⟨role, m, lv, hd, hF⟩ := hd
  have c0 := hd.c0
  have hlk := SD.lookup hd.map a ha
  have hright := right_any b w hb
  cases hr : rightB b with
  | false =>
    rw [hr] at hright
    rw [rightB_eq] at hr
    have Hr := Lib.hid hr
    have Hright := Lib.hid hright
    have Hdat := Lib.hid hdat
    clear hd hok hlen hlen2 ha hb hF hright hr hdat
    generalize getF a.data.toList S.files = o at *
    go_enter Try.func52, Try.ntmps52
    go_wp2_with fail
    refine Hright.out.mono ?_
    rintro e w' ⟨rfl, rfl⟩
    go_wp2
    go_ret
    refine ⟨ret_int (by unfold SD.rename; rw [Hr.out]; rfl), F, ?_, Upd.of_below (Below.refl _ _)⟩
    unfold SD.rename
    rw [Hr.out]
    exact Hdat.out
  | true =>
    rw [hr] at hright
    rw [rightB_eq] at hr
    have Hr := Lib.hid hr
    have Hright := Lib.hid hright
    cases hg : getF a.data.toList S.files with
    | none =>
      rw [hg] at hlk
      have hlk' : (Instr.lookup 85 (.map (some m)) (.string a) false).run Try.prog w = .ok (.pointer none) w := hlk
      have Hg := Lib.hid hg
      have Hdat := Lib.hid hdat
      clear hd hok hlen hlen2 ha hb hF hright hr hdat hg hlk
      go_enter Try.func52, Try.ntmps52
      go_wp2_with fail
      refine Hright.out.mono ?_
      rintro e w' ⟨rfl, rfl⟩
      go_wp2
      go_ret
      refine ⟨ret_int (by unfold SD.rename; rw [Hr.out, Hg.out]; rfl), F, ?_, Upd.of_below (Below.refl _ _)⟩
      unfold SD.rename
      rw [Hr.out, Hg.out]
      exact Hdat.out
    | some f =>
      rw [hg] at hlk
      have hlk' : (Instr.lookup 85 (.map (some m)) (.string a) false).run Try.prog w = .ok (.pointer (some ⟨f.id, 0, none⟩)) w := hlk
      have hmem := getF_some hg
      have hfile := hd.file _ hmem
      have hmap := hd.map
      have Hg := Lib.hid hg
      have Hd := Lib.hid hd
      have Hok := Lib.hid hok
      have Hm := Lib.hid hmem
      have Hfile := Lib.hid hfile
      have Hlen := Lib.hid hlen
      have Hlen2 := Lib.hid hlen2
      have Ha := Lib.hid ha
      have Hb := Lib.hid hb
      have HF := Lib.hid hF
      clear hd hok hlk hg hmem hfile hlen hlen2 ha hb hF hright hr hdat
      go_enter Try.func52, Try.ntmps52
      go_wp2_with fail
      refine Hright.out.mono ?_
      rintro e w' ⟨rfl, rfl⟩
      go_wp2_with (first | (at_delete; refine wpList_files_delete _ rfl _ _ rfl hmap a Ha.out rfl rfl ?_))
      intro w1 hmap1 hg1 hs1
      have hb1 : ∀ k, k < w.heap.size → k ≠ m → w1.heap[k]? = w.heap[k]? := fun k hk hne => hg1.block k hk (fun e => hne (by cases e; rfl))
      have hd1 : DiskIn role w1 d m lv { S with files := ers a.data.toList S.files } := Hd.out.setMap (by omega) hb1 (by rw [ers_idp]; exact hmap1) (fun p hp => Hd.out.file p (mem_ers.1 hp).1)
      have hne : ∀ k, role k = 4 → k ≠ m := fun k h4 e => by rw [e, Hd.out.rm] at h4; cases h4
      have hcall := remove_in hd1 (fun p hp => ⟨(Hok.out.looseCells Hd.out p hp).1, (Hok.out.looseCells Hd.out p hp).2.block (hb1 _ (Hok.out.looseCells Hd.out p hp).2.lt (hne _ (Hok.out.looseCells Hd.out p hp).1))⟩) Hlen.out b Hb.out
      have Hcall := Lib.hid hcall
      have Hs1 := Lib.hid hs1
      have Hg1 := Lib.hid hg1
      have Hb1 := Lib.hid hb1
      clear hd1 hcall hb1 hg1 hne hs1 hmap1 hmap
      go_wp2_with fail
      refine Hcall.out.mono ?_
      rintro e w2 ⟨rfl, lv', hd2, hs2⟩
      have hfid : ∀ p ∈ (SD.remove { S with files := ers a.data.toList S.files } b.data.toList).files, p.2.id ≠ f.id := fun p hp e => by
        have h1 := mem_ers.1 (mem_remove hp)
        have := ids_ne Hok.out.ids h1.1 Hm.out e
        rw [this] at h1
        exact h1.2 rfl
      have hb12 : ∀ k, role k = 4 ∨ role k = 5 + f.id → w2.heap[k]? = w.heap[k]? := fun k hk => by
        have hlt := Hd.out.lt k (by omega)
        have hkm : k ≠ m := fun e => by rw [e, Hd.out.rm] at hk; omega
        have hkd : k ≠ d := fun e => by rw [e, Hd.out.rd] at hk; omega
        exact (hs2.block k (by have := Hs1.out; omega) ⟨hkd, hkm, by omega⟩).trans (Hb1.out k hlt hkm)
      have hfile2 := Hfile.out.keep (role' := role) (fun _ _ => rfl) hb12
      obtain ⟨h4, dv, hdv, hblk, hrow⟩ := hfile2
      have f2 : w2.cell? ⟨f.id, 2, none⟩ = some (.bool f.stays) := by rw [cell_of hblk]; rfl
      have z2 : w2.frozen? ⟨f.id, 2, none⟩ = false := free_of hblk _
      have hd3 : DiskIn role (w2.setCell ⟨f.id, 2, none⟩ (.bool true)) d m lv' _ := hd2.other h4 (by simp [World.setCell]) (fun k _ hne => Below.heap_setCell _ _ _ _ hne) hfid
      have c3 := hd3.c0
      have hmap3 := hd3.map
      have hl3 : (SD.ids (SD.remove { S with files := ers a.data.toList S.files } b.data.toList)).length < maxLen := by
        have h1 := remove_length { S with files := ers a.data.toList S.files } b.data.toList
        have h2 := ers_length a.data.toList S.files
        have h3 := Hlen2.out
        simp only [SD.ids, List.length_map] at h1 ⊢
        unfold maxLen
        omega
      have Hd2 := Lib.hid hd2
      have Hs2 := Lib.hid hs2
      have Hblk := Lib.hid hblk
      have Hrow := Lib.hid hrow
      have Hdv := Lib.hid hdv
      have Hd3 := Lib.hid hd3
      have H4 := Lib.hid h4
      have Hl3 := Lib.hid hl3
      clear hd2 hs2 hfid hb12 hblk hrow hdv hd3 h4 hl3
      go_wp2_with (first | (at_mapUpdate; refine wpList_files_update rfl _ rfl _ _ _ rfl hmap3 Hl3.out b Hb.out f.id rfl rfl rfl ?_))
      intro w4 hmap4 hg4 hs4
      have Hmap4 := Lib.hid hmap4
      have Hg4 := Lib.hid hg4
      have Hs4 := Lib.hid hs4
      clear hmap4 hg4 hs4
      go_wp2
      go_ret
      refine ⟨ret_int (by unfold SD.rename; rw [Hr.out, Hg.out]; rfl), F, ⟨role, m, lv', ?_, HF.out⟩, ?_⟩
      · unfold SD.rename
        rw [Hr.out, Hg.out]
        refine Hd3.out.setMap (by rw [Hs4.out]; simp [World.setCell]) (fun k hk hne => Hg4.out.block k hk (fun e => hne (by cases e; rfl))) ?_ ?_
        · have e : ∀ L : List (List UInt8 × SF), (sins (b.data.toList, { f with stays := true }) (ers b.data.toList L)).map idp = sins (b.data.toList, f.id) (ers b.data.toList (L.map idp)) := fun L => by
            rw [show idp = fun x : List UInt8 × SF => (x.1, SF.id x.2) from rfl, sins_map, ers_map]
          rw [e]
          exact Hmap4.out
        · intro p hp
          rcases mem_sins.1 hp with rfl | hp
          · refine ⟨H4.out, dv, Hdv.out, by rw [setCell_same Hblk.out]; rfl, ownsRow_block Hrow.out fun g hg => Below.heap_setCell _ _ _ _ fun e => ?_⟩
            have h1 := Hdv.out g hg
            have h2 := H4.out
            rw [show g = f.id from e] at h1
            omega
          · exact Hd3.out.file p (mem_ers.1 hp).1
      · refine (upd_of (role := role) (role' := role) ?_ (fun _ _ h => h)).congr (fun k => (HF.out k).symm) (fun k => HF.out k)
        have k1 : Same (fun k => role k = 0) w w1 := (Same.of_grown Hg1.out).mono fun k _ h e => by
          cases e
          rw [Hd.out.rm] at h
          cases h
        have k2 : Same (fun k => role k = 0) w1 w2 := Hs2.out.mono fun k _ h => ⟨fun e => (by rw [e, Hd.out.rd] at h; cases h), fun e => (by rw [e, Hd.out.rm] at h; cases h), by rw [h]; decide⟩
        have k3 : Same (fun k => role k = 0) w2 (w2.setCell ⟨f.id, 2, none⟩ (.bool true)) := (Same.setCell w2 f.id 2 _).mono fun k _ h e => by
          rw [e, H4.out] at h
          cases h
        have k4 : Same (fun k => role k = 0) (w2.setCell ⟨f.id, 2, none⟩ (.bool true)) w4 := (Same.of_grown Hg4.out).mono fun k _ h e => by
          cases e
          rw [Hd.out.rm] at h
          cases h
        exact ((k1.trans k2).trans k3).trans k4
end Go.Proofs.Ytkefciacdmbidaa
