/- The disk of package store as plain data, how it lies in memory, and what stays where it is. -/
import Derived.Test.YtkefciacdmbidaaMp
import Derived.WalkSpells
import Derived.WalkLawsBesides
import Derived.Lib.Hide
import Derived.Lib.Strings
import Derived.Deep.QuietTactic
import Derived.BigQuiet
import Derived.Deep.RegionWith
import Derived.Deep.RegionHeld3
import Derived.StillTailTactics
import Derived.Outline
namespace Go.Proofs.Ytkefciacdmbidaa
open Go.RowKit Go.WideMaps Go.Maps

structure SF where
  id : Nat
  data : List Int
  safe : Nat
  stays : Bool
structure SD where
  files : List (List UInt8 × SF)
  loose : List (Nat × Nat)
  limit : Nat

def idp (p : List UInt8 × SF) : List UInt8 × Nat := (p.1, p.2.id)
def SD.ids (S : SD) : List (List UInt8 × Nat) := S.files.map idp
def lens (L : List (List UInt8 × SF)) : Nat := (L.map fun p => p.2.data.length).sum
def SD.size (S : SD) : Nat := lens S.files
def SD.nloose (S : SD) : Nat := (S.loose.map (·.2)).sum
def looseCells (l : List (Nat × Nat)) : List Value := l.flatMap fun p => [.pointer (some ⟨p.1, 0, none⟩), .int .i64 p.2]
def looseOf (l : List (Nat × Nat)) (i : Nat) : Nat := ((l.filter fun p => p.1 == i).map (·.2)).sum

structure SD.Ok (S : SD) : Prop where
  sorted : S.files.Pairwise (fun p q => Go.bytesBefore p.1 q.1 = true)
  ids : S.files.Pairwise (fun p q => p.2.id ≠ q.2.id)
  names : ∀ p ∈ S.files, 1 ≤ p.1.length ∧ p.1.length ≤ 16
  sums : ∀ p ∈ S.files, p.2.safe + looseOf S.loose p.2.id = p.2.data.length
  looseIn : ∀ l ∈ S.loose, ∃ p ∈ S.files, p.2.id = l.1
  limit : S.limit ≤ 16777216
  room : S.size ≤ S.limit

/-! memory -/
def FileAt (role : Nat → Nat) (w : World) (f : SF) : Prop :=
  role f.id = 4 ∧ ∃ dv : Value, (∀ g, dv.ownBlock = some g → role g = 5 + f.id) ∧ w.heap[f.id]? = some (.cells #[dv, .int .i64 f.safe, .bool f.stays] 103 (0, 0)) ∧ w.ownsRow 0 5 1 dv f.data.length (f.data.map (Value.int .u8))

structure DiskIn (role : Nat → Nat) (w : World) (d m : Nat) (lv : Value) (S : SD) : Prop where
  lt : ∀ k, role k ≠ 0 → k < w.heap.size
  rd : role d = 1
  rm : role m = 2
  rl : ∀ g, lv.ownBlock = some g → role g = 3
  disk : w.heap[d]? = some (.cells #[.map (some m), lv, .int .i64 S.limit] 88 (0, 0))
  map : MapIs w m S.ids
  loose : w.ownsRow 0 105 2 lv S.loose.length (looseCells S.loose)
  file : ∀ p ∈ S.files, FileAt role w p.2

def DiskAt (F : Nat → Prop) (w : World) (d : Nat) (S : SD) : Prop :=
  ∃ (role : Nat → Nat) (m : Nat) (lv : Value), DiskIn role w d m lv S ∧ ∀ k, F k ↔ role k ≠ 0

structure Upd (F F' : Nat → Prop) (w w' : World) : Prop where
  os : w'.os = w.os
  tape : w'.tape = w.tape
  output : w'.output = w.output
  size : w.heap.size ≤ w'.heap.size
  block : ∀ k, k < w.heap.size → ¬ F k → w'.heap[k]? = w.heap[k]?
  sub : ∀ k, F' k → F k ∨ w.heap.size ≤ k

theorem Upd.trans {F F' F'' : Nat → Prop} {w w' w'' : World} (h : Upd F F' w w') (h' : Upd F' F'' w' w'') : Upd F F'' w w'' where
  os := h'.os.trans h.os
  tape := h'.tape.trans h.tape
  output := h'.output.trans h.output
  size := Nat.le_trans h.size h'.size
  block k hk hF := (h'.block k (Nat.lt_of_lt_of_le hk h.size) (fun hF' => by
    rcases h.sub k hF' with h1 | h1
    · exact hF h1
    · omega)).trans (h.block k hk hF)
  sub k hk := by
    rcases h'.sub k hk with h1 | h1
    · exact h.sub k h1
    · exact Or.inr (Nat.le_trans h.size h1)

theorem Upd.of_below {F : Nat → Prop} {w w' : World} (h : Below w.heap.size w w') : Upd F F w w' :=
  ⟨h.os, h.tape, h.output, h.size, fun k hk _ => h.block k hk, fun _ hk => Or.inl hk⟩

theorem Upd.below {F F' : Nat → Prop} {w w' : World} (h : Upd F F' w w') {B : Nat} (hF : ∀ k, F k → B ≤ k) (hB : B ≤ w.heap.size) : Below B w w' :=
  ⟨h.os, h.tape, h.output, h.size, fun k hk => h.block k (by omega) (fun hFk => by have := hF k hFk; omega)⟩

theorem ownsRow_block {w w' : World} {base : Nat} {e : TypeId} {size : Nat} {v : Value} {n : Nat} {xs : List Value} (h : w.ownsRow base e size v n xs) (hb : ∀ g, v.ownBlock = some g → w'.heap[g]? = w.heap[g]?) : w'.ownsRow base e size v n xs := by
  refine ⟨h.1, ?_⟩
  rcases h.2 with hn | ⟨g, cap, cur, rfl, hg, hgg, rest⟩
  · exact .inl hn
  · exact .inr ⟨g, cap, cur, rfl, hg, (hb g rfl).trans hgg, rest⟩

theorem ownsRow_slice {w : World} {base : Nat} {e : TypeId} {size : Nat} {v : Value} {n : Nat} {xs : List Value} (h : w.ownsRow base e size v n xs) : ∃ A c, v = .slice A n c ∧ n ≤ c := by
  rcases h.2 with ⟨rfl, rfl⟩ | ⟨g, cap, cur, rfl, _, _, hc, _⟩
  · exact ⟨_, _, rfl, Nat.le_refl _⟩
  · exact ⟨_, _, rfl, hc⟩

theorem ownsRow_base0 {w : World} {base : Nat} {e : TypeId} {size : Nat} {v : Value} {n : Nat} {xs : List Value} (h : w.ownsRow base e size v n xs) : w.ownsRow 0 e size v n xs := by
  refine ⟨h.1, ?_⟩
  rcases h.2 with hn | ⟨g, cap, cur, rfl, _, rest⟩
  · exact .inl hn
  · exact .inr ⟨g, cap, cur, rfl, Nat.zero_le _, rest⟩

theorem FileAt.keep {role role' : Nat → Nat} {w w' : World} {f : SF} (h : FileAt role w f) (hr : ∀ k, role k = 4 ∨ role k = 5 + f.id → role' k = role k) (hb : ∀ k, role k = 4 ∨ role k = 5 + f.id → w'.heap[k]? = w.heap[k]?) : FileAt role' w' f := by
  obtain ⟨h1, dv, h2, h3, h4⟩ := h
  refine ⟨(hr _ (Or.inl h1)).trans h1, dv, fun g hg => (hr _ (Or.inr (h2 g hg))).trans (h2 g hg), (hb _ (Or.inl h1)).trans h3, ownsRow_block h4 fun g hg => hb g (Or.inr (h2 g hg))⟩

theorem DiskIn.keep {role : Nat → Nat} {w w' : World} {d m : Nat} {lv : Value} {S : SD} (h : DiskIn role w d m lv S) (hs : w.heap.size ≤ w'.heap.size) (hb : ∀ k, role k ≠ 0 → w'.heap[k]? = w.heap[k]?) : DiskIn role w' d m lv S where
  lt k hk := Nat.lt_of_lt_of_le (h.lt k hk) hs
  rd := h.rd
  rm := h.rm
  rl := h.rl
  disk := (hb d (by rw [h.rd]; decide)).trans h.disk
  map := h.map.block (hb m (by rw [h.rm]; decide))
  loose := ownsRow_block h.loose fun g hg => hb g (by rw [h.rl g hg]; decide)
  file p hp := (h.file p hp).keep (fun _ _ => rfl) fun k hk => hb k (by omega)

theorem DiskAt.keep {F : Nat → Prop} {w w' : World} {d : Nat} {S : SD} (h : DiskAt F w d S) (hs : w.heap.size ≤ w'.heap.size) (hb : ∀ k, F k → w'.heap[k]? = w.heap[k]?) : DiskAt F w' d S := by
  obtain ⟨role, m, lv, h1, h2⟩ := h
  exact ⟨role, m, lv, h1.keep hs fun k hk => hb k ((h2 k).2 hk), h2⟩

theorem DiskAt.lt {F : Nat → Prop} {w : World} {d : Nat} {S : SD} (h : DiskAt F w d S) : ∀ k, F k → k < w.heap.size := by
  obtain ⟨role, m, lv, h1, h2⟩ := h
  exact fun k hk => h1.lt k ((h2 k).1 hk)

theorem DiskAt.below {F : Nat → Prop} {w w' : World} {d : Nat} {S : SD} (h : DiskAt F w d S) (hb : Below w.heap.size w w') : DiskAt F w' d S :=
  h.keep hb.size fun k hk => hb.block k (h.lt k hk)

theorem DiskAt.mem {F : Nat → Prop} {w : World} {d : Nat} {S : SD} (h : DiskAt F w d S) : F d := by
  obtain ⟨role, m, lv, h1, h2⟩ := h
  exact (h2 d).2 (by rw [h1.rd]; decide)

theorem below_undrew {B : Nat} {w w' : World} (h : Below B w.drew w') : Below B w w' := ⟨h.os, h.tape, h.output, h.size, h.block⟩

/-! what a walk reads -/
theorem cell_of {w : World} {b : Nat} {cs : Array Value} {e : TypeId} {z : Nat × Nat} (h : w.heap[b]? = some (.cells cs e z)) (i : Nat) : w.cell? ⟨b, i, none⟩ = cs[i]? := by
  simp [World.cell?, h]
theorem free_of {w : World} {b : Nat} {cs : Array Value} {e : TypeId} (h : w.heap[b]? = some (.cells cs e (0, 0))) (i : Nat) : w.frozen? ⟨b, i, none⟩ = false := by
  simp [World.frozen?, h]

theorem DiskIn.c0 {role : Nat → Nat} {w : World} {d m : Nat} {lv : Value} {S : SD} (h : DiskIn role w d m lv S) : w.cell? ⟨d, 0, none⟩ = some (.map (some m)) := by rw [cell_of h.disk]; rfl
theorem DiskIn.c1 {role : Nat → Nat} {w : World} {d m : Nat} {lv : Value} {S : SD} (h : DiskIn role w d m lv S) : w.cell? ⟨d, 1, none⟩ = some lv := by rw [cell_of h.disk]; rfl
theorem DiskIn.c2 {role : Nat → Nat} {w : World} {d m : Nat} {lv : Value} {S : SD} (h : DiskIn role w d m lv S) : w.cell? ⟨d, 2, none⟩ = some (.int .i64 S.limit) := by rw [cell_of h.disk]; rfl

/-! plain -/
theorem sum_ers {α : Type} (g : List UInt8 × α → Nat) : ∀ {L : List (List UInt8 × α)}, L.Pairwise (fun p q => p.1 ≠ q.1) → ∀ {k : List UInt8} {a : α}, (k, a) ∈ L → (L.map g).sum = g (k, a) + ((ers k L).map g).sum
  | y :: r, hp, k, a, h => by
    obtain ⟨h1, h2⟩ := List.pairwise_cons.1 hp
    rcases List.mem_cons.1 h with rfl | h
    · have : ers k ((k, a) :: r) = r := by
        unfold ers
        rw [List.filter_cons]
        simp
        intro x b hx e
        exact absurd e.symm (h1 (x, b) hx)
      rw [this]; simp
    · have hne : y.1 ≠ k := h1 (k, a) h
      have : ers k (y :: r) = y :: ers k r := by simp [ers, hne]
      rw [this]
      simp only [List.map_cons, List.sum_cons]
      rw [sum_ers g h2 h]
      omega
theorem ers_pairwise {α : Type} {R : List UInt8 × α → List UInt8 × α → Prop} {L : List (List UInt8 × α)} (h : L.Pairwise R) (k : List UInt8) : (ers k L).Pairwise R := h.filter _
theorem ers_idp (k : List UInt8) (L : List (List UInt8 × SF)) : (ers k L).map idp = ers k (L.map idp) := ers_map SF.id k L
theorem mem_idp {k : List UInt8} {i : Nat} {L : List (List UInt8 × SF)} (h : (k, i) ∈ L.map idp) : ∃ f, (k, f) ∈ L ∧ f.id = i := by
  obtain ⟨p, hp, e⟩ := List.mem_map.1 h
  unfold idp at e
  simp only [Prod.mk.injEq] at e
  obtain ⟨rfl, rfl⟩ := e
  exact ⟨p.2, hp, rfl⟩
theorem before_ne {a b : List UInt8} (h : Go.bytesBefore a b = true) : a ≠ b := by
  rintro rfl
  have := Go.WideShapes.before_irrefl (a := Lit.string a)
  simp [Lit.before, h] at this
theorem SD.Ok.names_ne {S : SD} (h : S.Ok) : S.files.Pairwise (fun p q => p.1 ≠ q.1) := h.sorted.imp before_ne

end Go.Proofs.Ytkefciacdmbidaa
