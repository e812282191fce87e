/- A map from names to files (map[string]*file) as a sorted list of names and block numbers: what a look-up, a store, a delete and a step of a range do to it. -/
import Derived.Test.YtkefciacdmbidaaProg
import Derived.WalkKit
import Derived.KernelRfl
import Derived.Maps.OwnSet
import Derived.Maps.RangeWalk
namespace Go.Proofs.Ytkefciacdmbidaa
open Go.RowKit Go.WideMaps Go.Maps

/-! lists of names -/
section
variable {α : Type}
def sins (p : List UInt8 × α) : List (List UInt8 × α) → List (List UInt8 × α)
  | [] => [p]
  | y :: r => if Go.bytesBefore p.1 y.1 then p :: y :: r else y :: sins p r
def ers (k : List UInt8) (L : List (List UInt8 × α)) : List (List UInt8 × α) := L.filter fun p => !(p.1 == k)
def getF (k : List UInt8) : List (List UInt8 × α) → Option α
  | [] => none
  | y :: r => if y.1 == k then some y.2 else getF k r

theorem sins_perm (p : List UInt8 × α) : ∀ L : List (List UInt8 × α), (sins p L).Perm (p :: L)
  | [] => List.Perm.refl _
  | y :: r => by
    unfold sins
    split
    · exact List.Perm.refl _
    · exact ((sins_perm p r).cons y).trans (List.Perm.swap _ _ _)
theorem sins_length (p : List UInt8 × α) (L : List (List UInt8 × α)) : (sins p L).length = L.length + 1 := (sins_perm p L).length_eq
theorem mem_sins {p q : List UInt8 × α} {L : List (List UInt8 × α)} : q ∈ sins p L ↔ q = p ∨ q ∈ L := by rw [(sins_perm p L).mem_iff]; simp
theorem sins_map {β : Type} (g : α → β) (p : List UInt8 × α) : ∀ L : List (List UInt8 × α), (sins p L).map (fun x => (x.1, g x.2)) = sins (p.1, g p.2) (L.map fun x => (x.1, g x.2))
  | [] => rfl
  | y :: r => by
    unfold sins
    by_cases h : Go.bytesBefore p.1 y.1 = true
    · simp [h]
    · simp [h, sins_map g p r]
theorem ers_map {β : Type} (g : α → β) (k : List UInt8) (L : List (List UInt8 × α)) : (ers k L).map (fun x => (x.1, g x.2)) = ers k (L.map fun x => (x.1, g x.2)) := by
  unfold ers
  rw [List.filter_map]
  rfl
theorem ers_length (k : List UInt8) (L : List (List UInt8 × α)) : (ers k L).length ≤ L.length := List.length_filter_le _ _
theorem mem_ers {k : List UInt8} {q : List UInt8 × α} {L : List (List UInt8 × α)} : q ∈ ers k L ↔ q ∈ L ∧ q.1 ≠ k := by simp [ers]
theorem getF_some {k : List UInt8} {a : α} : ∀ {L : List (List UInt8 × α)}, getF k L = some a → (k, a) ∈ L
  | y :: r, h => by
    unfold getF at h
    split at h
    · rename_i hk
      cases h
      have : y.1 = k := by simpa using hk
      subst this
      simp
    · simp [getF_some h]
theorem getF_none {k : List UInt8} : ∀ {L : List (List UInt8 × α)}, getF k L = none → ∀ p ∈ L, p.1 ≠ k
  | [], _, _, hp => by simp at hp
  | y :: r, h, p, hp => by
    unfold getF at h
    split at h
    · cases h
    · rename_i hk
      rcases List.mem_cons.1 hp with rfl | hp
      · simpa using hk
      · exact getF_none h p hp
theorem getF_map {β : Type} (g : α → β) (k : List UInt8) : ∀ L : List (List UInt8 × α), getF k (L.map fun x => (x.1, g x.2)) = (getF k L).map g
  | [] => rfl
  | y :: r => by
    simp only [List.map_cons, getF]
    split
    · rfl
    · exact getF_map g k r
theorem ers_none {k : List UInt8} {L : List (List UInt8 × α)} (h : getF k L = none) : ers k L = L := by
  unfold ers
  rw [List.filter_eq_self]
  intro p hp
  simp [getF_none h p hp]
end

/-! the map -/
def ptrR : Value → Option (DataW Unit × List MemPlace)
  | .pointer (some ⟨i, 0, none⟩) => some (.lit (.int .u64 i), [])
  | .pointer none => some (.nil, [])
  | _ => none
theorem ptrR_mk (i : Nat) : ptrR (.pointer (some ⟨i, 0, none⟩)) = some (.lit (.int .u64 i), []) := rfl
theorem ptrR_nil : ptrR (.pointer none) = some (.nil, []) := rfl
theorem ptrR_inv {v : Value} {y : DataW Unit × List MemPlace} (h : ptrR v = some y) : ∃ o : Option Nat, v = .pointer (o.map fun i => ⟨i, 0, none⟩) ∧ y.1 = (match o with | some i => .lit (.int .u64 i) | none => .nil) := by
  unfold ptrR at h
  split at h
  · cases h; exact ⟨some _, rfl, rfl⟩
  · cases h; exact ⟨none, rfl, rfl⟩
  · cases h

def encE (p : List UInt8 × Nat) : Lit × DataW Unit := (.string p.1, .lit (.int .u64 p.2))
def encM (L : List (List UInt8 × Nat)) : DataW Unit := .map (L.map encE)

theorem encM_insert (p : List UInt8 × Nat) : ∀ L : List (List UInt8 × Nat), DataW.insert (encE p) (L.map encE) = (sins p L).map encE
  | [] => rfl
  | y :: r => by
    have hb : (encE p).1.before (encE y).1 = Go.bytesBefore p.1 y.1 := rfl
    by_cases h : Go.bytesBefore p.1 y.1 = true
    · simp [sins, DataW.insert, hb, h]
    · simp [sins, DataW.insert, hb, h, encM_insert p r]
theorem encM_filter (k : List UInt8) (L : List (List UInt8 × Nat)) : (L.map encE).filter (fun p => !p.1.sameKey (.string k)) = (ers k L).map encE := by
  unfold ers
  rw [List.filter_map]
  rfl
theorem encM_put (L : List (List UInt8 × Nat)) (k : List UInt8) (i : Nat) : (encM L).put (.string k) (.lit (.int .u64 i)) = encM (sins (k, i) (ers k L)) := by
  show DataW.map (DataW.insert (encE (k, i)) ((L.map encE).filter fun p => !p.1.sameKey (.string k))) = _
  rw [encM_filter, encM_insert]
  rfl
theorem encM_del (L : List (List UInt8 × Nat)) (k : List UInt8) : (encM L).del (.string k) = encM (ers k L) := by
  show DataW.map ((L.map encE).filter fun p => !p.1.sameKey (.string k)) = _
  rw [encM_filter]
  rfl
theorem encM_at (k : List UInt8) (z : DataW Unit) : ∀ L : List (List UInt8 × Nat), (encM L).atKey (.string k) z = (match getF k L with | some i => .lit (.int .u64 i) | none => z)
  | [] => rfl
  | y :: r => by
    have ih := encM_at k z r
    have hs : (encE y).1.sameKey (.string k) = (y.1 == k) := rfl
    unfold DataW.atKey encM at ih ⊢
    simp only [List.map_cons, List.find?_cons, hs, getF]
    by_cases h : (y.1 == k) = true
    · simp [h, encE]
    · simp only [h]
      exact ih
theorem encM_has (k : List UInt8) (L : List (List UInt8 × Nat)) : Maps.has (encM L) (.string k) = L.any fun p => p.1 == k := by
  show (L.map encE).any _ = _
  rw [List.any_map]
  rfl

def MapIs (w : World) (m : Nat) (L : List (List UInt8 × Nat)) : Prop := w.ownsMap Try.prog 9 ptrR m L.length (encM L)

theorem law9 : Keyed Try.prog 9 := string_keyed Try.underlying9
theorem zero101 (w : World) : (zeroValue 101).run Try.prog w = .ok (.pointer none) w := by kernel_rfl

theorem MapIs.lt {w : World} {m : Nat} {L : List (List UInt8 × Nat)} (h : MapIs w m L) : m < w.heap.size := World.ownsMap.lt h

theorem ownsMap_tight {w : World} {m n : Nat} {L : List (List UInt8 × Nat)} (h : w.ownsMap Try.prog 9 ptrR m n (encM L)) : MapIs w m L := by
  obtain ⟨es, clock, hb, F, hs, hD⟩ := h
  refine ⟨es, clock, hb, F, ?_, hD⟩
  have := congrArg Maps.size hD
  simp [Maps.size, encM, length_sorted] at this
  omega

theorem MapIs.made (w : World) : MapIs (w.alloc (.map #[] 0)) w.heap.size [] := World.ownsMap_made _ _ _ _

theorem MapIs.block {w w' : World} {m : Nat} {L : List (List UInt8 × Nat)} (h : MapIs w m L) (hb : w'.heap[m]? = w.heap[m]?) : MapIs w' m L := by
  obtain ⟨es, clock, h1, h2⟩ := h
  exact ⟨es, clock, hb.trans h1, h2⟩

def ptrOf (o : Option Nat) : Value := .pointer (o.map fun i => ⟨i, 0, none⟩)
theorem ptrOf_some (i : Nat) : ptrOf (some i) = .pointer (some ⟨i, 0, none⟩) := rfl
theorem ptrOf_none : ptrOf none = .pointer none := rfl

theorem MapIs.lookup {w : World} {m : Nat} {L : List (List UInt8 × Nat)} (h : MapIs w m L) (nm : ByteArray) (hn : nm.size ≤ maxLen) :
    (Instr.lookup 85 (.map (some m)) (.string nm) false).run Try.prog w = .ok (ptrOf (getF nm.data.toList L)) w := by
  obtain ⟨v, ps, hrun, hv⟩ := World.ownsMap.lookup h law9 Try.underlying85 (zero101 w) ptrR_nil (keyOf_string_mk Try.underlying9 hn)
  rw [hrun]
  obtain ⟨o, rfl, ho⟩ := ptrR_inv hv
  simp only [encM_at] at ho
  unfold ptrOf
  cases o with
  | none =>
    cases hg : getF nm.data.toList L with
    | none => rfl
    | some i => rw [hg] at ho; cases ho
  | some j =>
    cases hg : getF nm.data.toList L with
    | none => rw [hg] at ho; cases ho
    | some i =>
      rw [hg] at ho
      simp only [DataW.lit.injEq, Lit.int.injEq, true_and] at ho
      have : i = j := by omega
      rw [this]

theorem MapIs.update {w : World} {m : Nat} {L : List (List UInt8 × Nat)} (h : MapIs w m L) (nm : ByteArray) (hn : nm.size ≤ maxLen) (hL : L.length < maxLen) (i : Nat) :
    ∃ w', (Instr.mapUpdate 85 (.map (some m)) (.string nm) (.pointer (some ⟨i, 0, none⟩))).run Try.prog w = .ok () w' ∧ MapIs w' m (sins (nm.data.toList, i) (ers nm.data.toList L)) ∧ w.grownBy w' (some m) ∧ w'.heap.size = w.heap.size := by
  obtain ⟨w', hrun, h1, h2⟩ := World.ownsMap.store h law9 Try.underlying85 hL (keyOf_string_mk Try.underlying9 hn) (ptrR_mk i)
  refine ⟨w', hrun, ?_, h2.grown, ?_⟩
  · rw [encM_put] at h1
    exact ownsMap_tight h1
  · obtain ⟨es, clock, es', clock', hb, rfl⟩ := h2
    simp [Go.ChangeMaps.setBlock]

theorem MapIs.drop {w : World} {m : Nat} {L : List (List UInt8 × Nat)} (h : MapIs w m L) (nm : ByteArray) (hn : nm.size ≤ maxLen) (ty : TypeId) :
    ∃ w', (Builtin.delete_ #[85, 9] ty #[.map (some m), .string nm]).run Try.prog w = .ok (.tuple #[]) w' ∧ MapIs w' m (ers nm.data.toList L) ∧ w.grownBy w' (some m) ∧ w'.heap.size = w.heap.size := by
  obtain ⟨w', hrun, h1, h2⟩ := World.ownsMap.drop h law9 Try.underlying85 (keyOf_string_mk Try.underlying9 hn) ty
  refine ⟨w', hrun, ?_, h2.grown, ?_⟩
  · rw [encM_del] at h1
    exact ownsMap_tight h1
  · obtain ⟨es, clock, es', clock', hb, rfl⟩ := h2
    simp [Go.ChangeMaps.setBlock]

/-! at the operation -/
theorem wpList_files_update {P' : Program} (hP : P' = Try.prog) (w : World) {ops : Array Oper} {rest : List Oper} {o : Oper} {a : Act} {Q : Exit → Act → World → Prop}
    (hg : o.guard = none) (x y v : Operand) (hop : o.op = Op.mapUpdate 85 x y v) {m : Nat} {L : List (List UInt8 × Nat)} (h : MapIs w m L) (hL : L.length < maxLen) (nm : ByteArray) (hn : nm.size ≤ maxLen) (i : Nat)
    (hx : a.eval x = .map (some m)) (hy : a.eval y = .string nm) (hv : a.eval v = .pointer (some ⟨i, 0, none⟩))
    (hK : ∀ w', MapIs w' m (sins (nm.data.toList, i) (ers nm.data.toList L)) → w.grownBy w' (some m) → w'.heap.size = w.heap.size → wpList P' ops Q rest (a.put o.dst undef) w') :
    wpList P' ops Q (o :: rest) a w := by
  subst hP
  refine wpList_plain hg fun K' hK' => ?_
  obtain ⟨w', hrun, r1, r2, r3⟩ := h.update nm hn hL i
  unfold Oper.wp
  simp [execOp, hop, hx, hy, hv, hrun, Result.andThen]
  exact hK' _ _ (hK w' r1 r2 r3)

theorem wpList_files_delete (w : World) {ops : Array Oper} {rest : List Oper} {o : Oper} {a : Act} {Q : Exit → Act → World → Prop}
    (hg : o.guard = none) (x y : Operand) (hop : o.op = Op.call { callee := Callee.builtin Builtin.delete, args := #[x, y], argTypes := #[85, 9] }) {m : Nat} {L : List (List UInt8 × Nat)} (h : MapIs w m L) (nm : ByteArray) (hn : nm.size ≤ maxLen)
    (hx : a.eval x = .map (some m)) (hy : a.eval y = .string nm)
    (hK : ∀ w', MapIs w' m (ers nm.data.toList L) → w.grownBy w' (some m) → w'.heap.size = w.heap.size → wpList Try.prog ops Q rest (a.put o.dst (.tuple #[])) w') :
    wpList Try.prog ops Q (o :: rest) a w := by
  refine wpList_plain hg fun K' hK' => ?_
  obtain ⟨w', hrun, r1, r2, r3⟩ := h.drop nm hn o.type
  unfold Oper.wp
  simp [execOp, hop, resolve, invoke, builtin, hx, hy, hrun, Result.andThen]
  exact hK' _ _ (hK w' r1 r2 r3)

/-! a range over the files: rem: the entries that are still to come -/
def RangeIs (w : World) (m it : Nat) (L rem : List (List UInt8 × Nat)) : Prop :=
  ∃ left cnt, w.ranges Try.prog 9 ptrR m it L.length (encM L) left cnt ∧ rem = L.filter fun p => left (.string p.1)

theorem RangeIs.block {w w' : World} {m it : Nat} {L rem : List (List UInt8 × Nat)} (h : RangeIs w m it L rem) (hm : w'.heap[m]? = w.heap[m]?) (hi : w'.heap[it]? = w.heap[it]?) : RangeIs w' m it L rem := by
  obtain ⟨left, cnt, ⟨es, clock, since, seen, c0, hb, F, hs, hD, hr, rest⟩, hrem⟩ := h
  exact ⟨left, cnt, ⟨es, clock, since, seen, c0, hm.trans hb, F, hs, hD, hi.trans hr, rest⟩, hrem⟩
theorem RangeIs.map {w : World} {m it : Nat} {L rem : List (List UInt8 × Nat)} (h : RangeIs w m it L rem) : MapIs w m L := by
  obtain ⟨left, cnt, hr, _⟩ := h
  exact hr.owns
theorem RangeIs.lt {w : World} {m it : Nat} {L rem : List (List UInt8 × Nat)} (h : RangeIs w m it L rem) : it < w.heap.size := by
  obtain ⟨left, cnt, hr, _⟩ := h
  exact World.ranges.lt hr
theorem RangeIs.ne {w : World} {m it : Nat} {L rem : List (List UInt8 × Nat)} (h : RangeIs w m it L rem) : it ≠ m := by
  obtain ⟨left, cnt, hr, _⟩ := h
  exact World.ranges.ne hr

theorem wpList_files_range (w : World) {ops : Array Oper} {rest : List Oper} {o : Oper} {a : Act} {Q : Exit → Act → World → Prop}
    (hg : o.guard = none) (x : Operand) (hop : o.op = Op.range 85 x) {m : Nat} {L : List (List UInt8 × Nat)} (hm : a.eval x = .map (some m)) (h : MapIs w m L)
    (hK : ∀ w', RangeIs w' m w.heap.size L L → w.grownBy w' none → w'.heap.size = w.heap.size + 1 → wpList Try.prog ops Q rest (a.put o.dst (.pointer (some ⟨w.heap.size, 0, none⟩))) w') :
    wpList Try.prog ops Q (o :: rest) a w :=
  wpList_range_own w hg x 85 hop 9 101 law9 Try.underlying85 ptrR m L.length (encM L) hm h fun w' h1 h2 h3 =>
    hK w' ⟨_, _, h1, by
      symm
      rw [List.filter_eq_self]
      intro p hp
      rw [encM_has, List.any_eq_true]
      exact ⟨p, hp, by simp⟩⟩ h2 h3

theorem sameKey_string (a b : List UInt8) : (Lit.string a).sameKey (.string b) = (a == b) := rfl

theorem rem_step {left : Lit → Bool} {L : List (List UInt8 × Nat)} (k : List UInt8) :
    (L.filter fun p => left (.string p.1) && !(Lit.string p.1).sameKey (.string k)) = ers k (L.filter fun p => left (.string p.1)) := by
  unfold ers
  rw [List.filter_filter]
  congr 1
  funext p
  rw [sameKey_string, Bool.and_comm]

theorem keyOf_string_inv {v : Value} {kl : Lit} (h : keyOf Try.prog 9 v = some kl) : ∃ s : ByteArray, v = .string s ∧ kl = .string s.data.toList ∧ s.size ≤ maxLen := by
  cases v <;> simp [keyOf, Try.underlying9, mapKey] at h
  obtain ⟨hw, rfl⟩ := h
  exact ⟨_, rfl, rfl, hw⟩

structure NoMore (rem : List (List UInt8 × Nat)) : Prop where
  nil : rem = []

/-- a step of a range: the file s, at block i, has come -/
structure FileStep (w w' : World) (m it : Nat) (L rem : List (List UInt8 × Nat)) (s : ByteArray) (i : Nat) : Prop where
  size : s.size ≤ maxLen
  mem : (s.data.toList, i) ∈ rem
  range : RangeIs w' m it L (ers s.data.toList rem)
  left : w'.rangeLeft m it < w.rangeLeft m it
  grown : w.grownBy w' (some it)
  heap : w'.heap.size = w.heap.size
  entry : (Instr.entry (.pointer (some ⟨it, 0, none⟩))).run Try.prog w' = .ok (.tuple #[.string s, .pointer (some ⟨i, 0, none⟩)]) w'

theorem wpList_files_next (w : World) {ops : Array Oper} {rest : List Oper} {o : Oper} {a : Act} {Q : Exit → Act → World → Prop}
    (hg : o.guard = none) (x : Operand) (hop : o.op = Op.next x false) {m it : Nat} {L rem : List (List UInt8 × Nat)} (hit : a.eval x = .pointer (some ⟨it, 0, none⟩)) (h : RangeIs w m it L rem)
    (hDone : NoMore rem → wpList Try.prog ops Q rest (a.put o.dst (.tuple #[.bool false])) w)
    (hMore : ∀ (s : ByteArray) (i : Nat) (w' : World), FileStep w w' m it L rem s i → wpList Try.prog ops Q rest (a.put o.dst (.tuple #[.bool true, .string s, .pointer (some ⟨i, 0, none⟩)])) w') :
    wpList Try.prog ops Q (o :: rest) a w := by
  obtain ⟨left, cnt, hr, hrem⟩ := h
  refine wpList_next_ranges (α := ByteArray) (β := Option Nat) w hg x hop 9 law9 ptrR Value.string ptrOf (fun key kl hk => ?_) (fun v y hv => ?_) m it L.length (encM L) left cnt hit hr ?_ ?_
  · obtain ⟨s, rfl, _⟩ := keyOf_string_inv hk; exact ⟨s, rfl⟩
  · obtain ⟨o, rfl, _⟩ := ptrR_inv hv; exact ⟨o, rfl⟩
  · intro _ hl
    exact hDone ⟨by rw [hrem]; simp [hl]⟩
  · intro s o kl y w' cnt' hkey hlk hv hat hr' hlt hgr hsz hen
    obtain ⟨s', e1, rfl, hs⟩ := keyOf_string_inv hkey
    cases e1
    have hz := hat (.nil)
    rw [encM_at] at hz
    obtain ⟨o', e2, ho⟩ := ptrR_inv hv
    have : o' = o := by
      cases o <;> cases o' <;> simp [ptrOf] at e2 ⊢
      exact e2.symm
    subst this
    have hz2 := hat (.lit (.bool true))
    rw [encM_at] at hz2
    cases hgF : getF s.data.toList L with
    | none => rw [hgF] at hz hz2; rw [← hz] at hz2; cases hz2
    | some i =>
      rw [hgF] at hz
      rw [ho] at hz
      cases o' with
      | none => cases hz
      | some j =>
        simp only [DataW.lit.injEq, Lit.int.injEq, true_and] at hz
        have hij : i = j := by omega
        subst hij
        refine hMore s i w' ⟨hs, ?_, ⟨_, cnt', hr', ?_⟩, by rw [hr'.left_eq, hr.left_eq]; exact hlt, hgr, hsz, hen⟩
        · rw [hrem, List.mem_filter]
          exact ⟨getF_some hgF, hlk⟩
        · rw [hrem]
          exact (rem_step _).symm

/-- a delete in a round of a range, of a key that has come -/
theorem wpList_files_delete_in (w : World) {ops : Array Oper} {rest : List Oper} {o : Oper} {a : Act} {Q : Exit → Act → World → Prop}
    (hg : o.guard = none) (x y : Operand) (hop : o.op = Op.call { callee := Callee.builtin Builtin.delete, args := #[x, y], argTypes := #[85, 9] }) {m it : Nat} {L rem : List (List UInt8 × Nat)} (h : RangeIs w m it L rem) (nm : ByteArray) (hn : nm.size ≤ maxLen)
    (hx : a.eval x = .map (some m)) (hy : a.eval y = .string nm)
    (hK : ∀ w', RangeIs w' m it (ers nm.data.toList L) (ers nm.data.toList rem) → w'.rangeLeft m it ≤ w.rangeLeft m it → w.grownBy w' (some m) → w'.heap.size = w.heap.size → wpList Try.prog ops Q rest (a.put o.dst (.tuple #[])) w') :
    wpList Try.prog ops Q (o :: rest) a w := by
  obtain ⟨left, cnt, hr, hrem⟩ := h
  refine wpList_delete_ranges w hg x y 85 9 hop 101 law9 Try.underlying85 ptrR m it L.length (encM L) left cnt hx hr _ _ hy (keyOf_string_mk Try.underlying9 hn) ?_
  intro w' cnt' hr' hle ht
  rw [encM_del] at hr'
  refine hK w' ⟨fun z => left z && !z.sameKey (.string nm.data.toList), cnt', ?_, ?_⟩ (by rw [hr'.left_eq, hr.left_eq]; exact hle) ht.grown ?_
  · obtain ⟨es, clock, since, seen, c0, hb, F, hs, hD, rest'⟩ := hr'
    refine ⟨es, clock, since, seen, c0, hb, F, ?_, hD, rest'⟩
    have := congrArg Maps.size hD
    simp [Maps.size, encM, length_sorted] at this
    omega
  · rw [hrem]
    show _ = (ers nm.data.toList L).filter _
    unfold ers
    rw [List.filter_filter, List.filter_filter]
    congr 1
    funext p
    show _ = ((left (.string p.1) && !(p.1 == nm.data.toList)) && !(p.1 == nm.data.toList))
    cases left (.string p.1) <;> cases (p.1 == nm.data.toList) <;> rfl
  · obtain ⟨es, clock, es', clock', hb, rfl⟩ := ht
    simp [Go.ChangeMaps.setBlock]
end Go.Proofs.Ytkefciacdmbidaa
