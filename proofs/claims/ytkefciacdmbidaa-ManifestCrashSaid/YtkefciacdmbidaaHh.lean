/- A row of states; what a manifest's disk answers. -/
import Derived.Test.YtkefciacdmbidaaHe
namespace Go.Proofs.Ytkefciacdmbidaa
open Go.RowKit Go.WideMaps Go.Maps Go.Lib

structure StateAt (w : World) (b off : Nat) (s : MS) : Prop where
  c0 : w.cell? ⟨b, off, none⟩ = some (.int .i64 s.gen)
  c1 : w.cell? ⟨b, off + 1, none⟩ = some (.int .i64 s.applied)
  c2 : w.cell? ⟨b, off + 2, none⟩ = some (.int .i64 s.next)
  ex : ∃ A c, w.cell? ⟨b, off + 3, none⟩ = some (.slice A s.tables.length c) ∧ IntsAt w (.slice A s.tables.length c) s.tables
structure StatesAt (w : World) (A : Option Addr) (ss : List MS) : Prop where
  at_ : ss ≠ [] → ∃ b off, A = some ⟨b, off, none⟩ ∧ b < w.heap.size ∧ ∀ i (h : i < ss.length), StateAt w b (off + i * 4) ss[i]

theorem DM.keep {w0 w w' : World} {d : Nat} {F : Nat → Prop} {xs : List Int} {last : MS} {lim : Nat} (h : DM w0 w d F xs last lim) (hs : w.heap.size ≤ w'.heap.size) (hk : ∀ k, F k → w'.heap[k]? = w.heap[k]?) (hb : Below w0.heap.size w0 w') : DM w0 w' d F xs last lim := by
  obtain ⟨S, h1, h2⟩ := h.ex
  exact ⟨⟨S, h1.keep hs hk, h2⟩, h.good, h.foot, hb⟩
theorem DM.noloose {w0 w : World} {d : Nat} {F : Nat → Prop} {xs : List Int} {last : MS} {lim : Nat} (h : DM w0 w d F xs last lim) : Calls Try.prog 29 #[.pointer (some ⟨d, 0, none⟩)] w fun e w' => e = .returned (.int .i64 0) ∧ Below w.heap.size w w' := by
  obtain ⟨S, h1, h2⟩ := h.ex
  have := loose_any h1 (by rw [h2.nloose]; decide) (by rw [h2.loose]; decide)
  rw [h2.nloose] at this
  exact this
def AllRead (w : World) (xs : List Int) (e : Ending) (w' : World) : Prop :=
  ∃ v b, e = .returned (.tuple #[v, .bool b]) ∧ w'.ownsRow w.heap.size 5 1 v xs.length (xs.map (Value.int .u8)) ∧ Below w.heap.size w w'
theorem DM.readall {w0 w : World} {d : Nat} {F : Nat → Prop} {xs : List Int} {last : MS} {lim : Nat} (h : DM w0 w d F xs last lim) : Calls Try.prog 30 #[.pointer (some ⟨d, 0, none⟩), .string ⟨#[109]⟩] w (AllRead w xs) := by
  obtain ⟨S, h1, h2⟩ := h.ex
  refine (read_any h1 h2.ok ⟨#[109]⟩ (by decide)).mono fun e w' hp => ?_
  obtain ⟨v, rfl, h3, h4⟩ := hp
  have e1 : S.data (⟨#[109]⟩ : ByteArray).data.toList = xs := h2.data
  rw [e1] at h3
  exact ⟨v, _, rfl, h3, h4⟩

structure CrashAt (w1 wr : World) (d q : Nat) (F : Nat → Prop) (xs : List Int) (last : MS) (av tvl : Value) : Prop where
  dm : DM w1 wr d F xs last 1048576
  box : KB F wr q (boxV last.gen last.applied last.next tvl 59)
  qlo : w1.heap.size ≤ q
  row : wr.ownsRow w1.heap.size 5 1 av xs.length (xs.map (Value.int .u8))
  out : ∀ g, av.ownBlock = some g → ¬ F g
  len : xs.length ≤ 3000
theorem CrashAt.step {w1 wr w' : World} {d q : Nat} {F : Nat → Prop} {xs : List Int} {last : MS} {av tvl : Value} (h : CrashAt w1 wr d q F xs last av tvl) (hb : Below wr.heap.size wr w') : CrashAt w1 w' d q F xs last av tvl :=
  ⟨h.dm.step hb, h.box.step hb, h.qlo, ownsRow_block h.row fun g hg => hb.block g (h.row.lt g hg).2, h.out, h.len⟩
theorem CrashAt.upd {w1 wr w' : World} {d q : Nat} {F F' : Nat → Prop} {xs : List Int} {last : MS} {av tvl : Value} (h : CrashAt w1 wr d q F xs last av tvl) (hdm : DM w1 w' d F' xs last 1048576) (hu : Upd F F' wr w') : CrashAt w1 w' d q F' xs last av tvl :=
  ⟨hdm, h.box.upd hu, h.qlo, ownsRow_block h.row fun g hg => hu.block g (h.row.lt g hg).2 (h.out g hg), fun g hg hf => (hu.sub g hf).elim (h.out g hg) fun h1 => by have := (h.row.lt g hg).2; omega, h.len⟩
/-- a state is laid into the box of the last one -/
theorem box_set {w1 w : World} {d q : Nat} {F : Nat → Prop} {xs : List Int} {s : MS} {g a n g' a' n' : Int} {tv tv' : Value} (hdm : DM w1 w d F xs s 1048576) (hbox : KB F w q (boxV g a n tv 59)) (hq : w1.heap.size ≤ q) :
    DM w1 ((((w.setCell ⟨q, 0, none⟩ (.int .i64 g')).setCell ⟨q, 1, none⟩ (.int .i64 a')).setCell ⟨q, 2, none⟩ (.int .i64 n')).setCell ⟨q, 3, none⟩ tv') d F xs s 1048576 ∧
    KB F ((((w.setCell ⟨q, 0, none⟩ (.int .i64 g')).setCell ⟨q, 1, none⟩ (.int .i64 a')).setCell ⟨q, 2, none⟩ (.int .i64 n')).setCell ⟨q, 3, none⟩ tv') q (boxV g' a' n' tv' 59) := by
  have hb := below_set4 hdm.below hq (.int .i64 g') (.int .i64 a') (.int .i64 n') tv'
  refine ⟨hdm.keep ?_ (fun k hk => set4_other (fun e => hbox.out (by rw [e]; exact hk)) _ _ _ _) hb, ⟨set4 hbox.at_ _ _ _ _, hbox.out⟩⟩
  simp [World.setCell]

end Go.Proofs.Ytkefciacdmbidaa
