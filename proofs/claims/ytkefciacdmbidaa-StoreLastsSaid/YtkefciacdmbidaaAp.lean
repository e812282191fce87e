/- append onto a row that nobody else holds, from any source; bytes.Clone. -/
import Derived.Test.YtkefciacdmbidaaSd
import Derived.Maps.AppendAt
import Derived.Laws.AppendOwnNone
namespace Go.Proofs.Ytkefciacdmbidaa
open Go.RowKit Go.WideMaps Go.Maps

/-- a slice value that holds these cells, m elements -/
def Srcs (w : World) (v : Value) (size m : Nat) (news : List Value) : Prop :=
  (v = .slice none 0 0 ∧ m = 0 ∧ news = []) ∨
  ∃ ad c, v = .slice (some ad) m c ∧ m ≤ c ∧ news.length = m * size ∧ (∀ j u, news[j]? = some u → w.cell? (ad.add j) = some u) ∧ ∀ u ∈ news, u.oneCell' = true

structure Appended (w w' : World) (v v' : Value) (e size n m : Nat) (xs : List Value) : Prop where
  own : w'.ownsRow 0 e size v' (n + m) xs
  grown : w.grownBy w' v.ownBlock
  nil : v' = .slice none 0 0 ↔ v = .slice none 0 0 ∧ m = 0
  loc : v'.ownBlock = v.ownBlock ∨ v'.ownBlock = some w.heap.size

theorem Srcs.slice {w : World} {v : Value} {size m : Nat} {news : List Value} (h : Srcs w v size m news) : ∃ A c, v = .slice A m c ∧ m ≤ c := by
  rcases h with ⟨rfl, rfl, _⟩ | ⟨ad, c, rfl, hc, _⟩
  · exact ⟨_, _, rfl, Nat.le_refl _⟩
  · exact ⟨_, _, rfl, hc⟩

theorem Srcs.length {w : World} {v : Value} {size m : Nat} {news : List Value} (h : Srcs w v size m news) : news.length = m * size := by
  rcases h with ⟨_, rfl, rfl⟩ | ⟨ad, c, _, _, h, _⟩
  · simp
  · exact h

theorem Srcs.one {w : World} {v : Value} {size m : Nat} {news : List Value} (h : Srcs w v size m news) : ∀ u ∈ news, u.oneCell' = true := by
  rcases h with ⟨_, _, rfl⟩ | ⟨ad, c, _, _, _, _, h⟩
  · simp
  · exact h

theorem Srcs.below {w w' : World} {v : Value} {size m : Nat} {news : List Value} (h : Srcs w v size m news) {B : Nat} (hb : Below B w w') (hv : ∀ ad n c, v = .slice (some ad) n c → ad.block < B ∧ ad.spot = none) : Srcs w' v size m news := by
  rcases h with h | ⟨ad, c, rfl, hc, hl, hcell, h1⟩
  · exact Or.inl h
  · obtain ⟨h2, h3⟩ := hv ad m c rfl
    refine Or.inr ⟨ad, c, rfl, hc, hl, fun j u hj => ?_, h1⟩
    have := hcell j u hj
    have e : (ad.add j).block = ad.block := by unfold Addr.add; split <;> rfl
    rw [hb.cell (p := ad.add j) (by rw [e]; exact h2)]
    exact this

theorem wpList_app (w : World) {ops : Array Oper} {rest : List Oper} {o : Oper} {a : Act} {Q : Exit → Act → World → Prop} (hgd : o.guard = none) (s x : Operand) (t : TypeId)
    (ho : o.op = .call { callee := .builtin .append, args := #[s, x], argTypes := #[t, t] }) (e : TypeId) (size bytes : Nat) (z : Value) (ht : Try.prog.underlying t = some (.slice e))
    (hi : (Try.prog.info? e).map (fun i => (i.zero, i.size, i.bytes)) = some (some z, size, bytes)) (hzs : z.cells.size = size) (hsz : 0 < size)
    (v : Value) (n : Nat) (xs : List Value) (hs : a.eval s = v) (hown : w.ownsRow 0 e size v n xs) (y : Value) (m : Nat) (news : List Value) (hx : a.eval x = y) (hsrc : Srcs w y size m news)
    (h63 : n + m ≤ maxLen) (hbytes : (n + m) * bytes ≤ 140737488355328)
    (h : ∀ v' w', Appended w w' v v' e size n m (xs ++ news) → wpList Try.prog ops Q rest (a.put o.dst v') w') : wpList Try.prog ops Q (o :: rest) a w := by
  obtain ⟨i, hi', hz1, hz2, hz3⟩ := info_parts hi
  rcases hsrc with ⟨rfl, rfl, rfl⟩ | ⟨ad, c, rfl, hc, hl, hcell, h1⟩
  · refine wpList_append_own_none hgd s x t ho 0 e i size ht hi' v n xs hs hown hx (h v w ⟨by simpa using hown, ⟨rfl, rfl, rfl, Nat.le_refl _, fun _ _ _ => rfl⟩, by simp, Or.inl rfl⟩)
  · exact wpList_append_own_at w hgd s x t ho 0 e i z size bytes ht hi' hz1 hz2 hz3 hzs hsz v n xs hs hown ad m c news hx hl hcell h1 h63 hbytes (Nat.zero_le _) fun v' w' h2 h3 h4 h5 => h v' w' ⟨h2, h3, h4, h5⟩

theorem info5 : (Try.prog.info? 5).map (fun i => (i.zero, i.size, i.bytes)) = some (some (.int .u8 0), 1, 1) := by kernel_rfl
theorem info3 : (Try.prog.info? 3).map (fun i => (i.zero, i.size, i.bytes)) = some (some (.int .i64 0), 1, 8) := by kernel_rfl
theorem info9 : (Try.prog.info? 9).map (fun i => (i.zero, i.size, i.bytes)) = some (some (.string ⟨#[]⟩), 1, 16) := by kernel_rfl
theorem info105 : (Try.prog.info? 105).map (fun i => (i.zero, i.size, i.bytes)) = some (some (.agg #[.pointer none, .int .i64 0]), 2, 16) := by kernel_rfl
theorem info32 : (Try.prog.info? 32).map (fun i => (i.zero, i.size, i.bytes)) = some (some (.slice none 0 0), 1, 24) := by kernel_rfl

/-- the bytes that a slice value holds -/
def BytesAt (w : World) (v : Value) (xs : List Int) : Prop := Srcs w v 1 xs.length (xs.map (Value.int .u8))
def IntsAt (w : World) (v : Value) (xs : List Int) : Prop := Srcs w v 1 xs.length (xs.map (Value.int .i64))

theorem ownsRow_srcs {w : World} {base : Nat} {e : TypeId} {size : Nat} {v : Value} {n : Nat} {xs : List Value} (h : w.ownsRow base e size v n xs) (h1 : ∀ u ∈ xs, u.oneCell' = true) : Srcs w v size n xs := by
  have hl := h.1
  have hcs := @World.ownsRow.cells w base e size v n xs h
  rcases h.2 with ⟨rfl, rfl⟩ | ⟨g, cap, cur, rfl, _, _, hc, _⟩
  · exact Or.inl ⟨rfl, rfl, by simpa using hl⟩
  · exact Or.inr ⟨⟨g, 0, none⟩, cap, rfl, hc, hl, fun j u hj => hcs (g := g) rfl j u hj, h1⟩
theorem one_u8 (xs : List Int) : ∀ u ∈ xs.map (Value.int .u8), u.oneCell' = true := by simp [Value.oneCell']
theorem one_i64 (xs : List Int) : ∀ u ∈ xs.map (Value.int .i64), u.oneCell' = true := by simp [Value.oneCell']

theorem ownsRow_rebase {w : World} {base base' : Nat} {e : TypeId} {size : Nat} {v : Value} {n : Nat} {xs : List Value} (h : w.ownsRow base e size v n xs) (hb : ∀ g, v.ownBlock = some g → base' ≤ g) : w.ownsRow base' e size v n xs := by
  refine ⟨h.1, ?_⟩
  rcases h.2 with hn | ⟨g, cap, cur, rfl, _, rest⟩
  · exact .inl hn
  · exact .inr ⟨g, cap, cur, rfl, hb g rfl, rest⟩

/-- the answer is a new row that holds these elements -/
def NewRow (w : World) (e size : Nat) (n : Nat) (xs : List Value) (en : Ending) (w' : World) : Prop :=
  ∃ v, en = .returned v ∧ w'.ownsRow w.heap.size e size v n xs ∧ Below w.heap.size w w'

theorem Srcs.alloc {w : World} {v : Value} {size m : Nat} {news : List Value} (h : Srcs w v size m news) (o : Obj) : Srcs (w.alloc o) v size m news := by
  rcases h with h | ⟨ad, c, rfl, hc, hl, hcell, h1⟩
  · exact Or.inl h
  · refine Or.inr ⟨ad, c, rfl, hc, hl, fun j u hj => ?_, h1⟩
    have h2 := hcell j u hj
    have hlt := World.block_lt_of_cell? w _ h2
    rw [World.cell?_of_block (w := w) (Below.heap_alloc w o _ hlt)]
    exact h2
theorem BytesAt.alloc {w : World} {v : Value} {xs : List Int} (h : BytesAt w v xs) (o : Obj) : BytesAt (w.alloc o) v xs := Srcs.alloc h o

theorem newRow_made {w w1 : World} {o : Obj} {e size m : Nat} {v1 : Value} {xs : List Value} (h : Appended (w.alloc o) w1 (.slice (some ⟨w.heap.size, 0, none⟩) 0 0) v1 e size 0 m ([] ++ xs)) : NewRow w e size m xs (.returned v1) w1 := by
  have hown := h.own
  rw [Nat.zero_add, List.nil_append] at hown
  refine ⟨v1, rfl, ownsRow_rebase hown fun g hg => ?_, ?_⟩
  · rcases h.loc with hl | hl
    · rw [hg] at hl
      simp [Value.ownBlock] at hl
      omega
    · rw [hg] at hl
      simp at hl
      omega
  · exact ((Below.refl _ _).alloc (Nat.le_refl _) _).grown h.grown (by simp) (fun k hk => by simp [Value.ownBlock] at hk; omega)

theorem clone59_any (w : World) (v : Value) (xs : List Int) (h : BytesAt w v xs) (hn : xs.length ≤ 140737488355328) :
    Calls Try.prog 59 #[v] w (NewRow w 5 1 xs.length (xs.map (Value.int .u8))) := by
  have H := Lib.hid h
  rcases h with ⟨rfl, h0, -⟩ | ⟨ad, c, rfl, -⟩
  · have hx : xs = [] := by simpa using h0
    subst hx
    clear hn h0
    have he := fun w' : World => Lib.run_eql_slice_nil (P := Try.prog) w' 32 5 none 0 0 0 0 Try.underlying32
    go_enter Try.func59, Try.ntmps59
    go_wp2
    go_ret
    exact ⟨_, rfl, World.ownsRow_nil _ _ _ _, Below.refl _ _⟩
  · have he := fun w' : World => Lib.run_eql_slice_nil (P := Try.prog) w' 32 5 (some ad) xs.length c 0 0 Try.underlying32
    go_enter Try.func59, Try.ntmps59
    go_wp2_with (first | (at_builtin; go_loud (refine wpList_app _ rfl _ _ 32 rfl 5 1 1 _ Try.underlying32 info5 rfl (by decide) _ 0 [] rfl (World.ownsRow_made _ #[] 0 (Nat.zero_le _) (Nat.zero_le _) rfl) _ xs.length (xs.map (Value.int .u8)) rfl ?hsrc ?h63 ?hby ?_)))
    case hsrc => exact H.out.alloc _
    case h63 => unfold maxLen; omega
    case hby => omega
    intro v1 w1 hap
    go_wp2
    go_ret
    exact newRow_made hap
theorem clone82_any (w : World) (v : Value) (xs : List Int) (h : BytesAt w v xs) (hn : xs.length ≤ 140737488355328) :
    Calls Try.prog 82 #[v] w (NewRow w 5 1 xs.length (xs.map (Value.int .u8))) := by
  have H := Lib.hid h
  rcases h with ⟨rfl, h0, -⟩ | ⟨ad, c, rfl, -⟩
  · have hx : xs = [] := by simpa using h0
    subst hx
    clear hn h0
    have he := fun w' : World => Lib.run_eql_slice_nil (P := Try.prog) w' 32 5 none 0 0 0 0 Try.underlying32
    go_enter Try.func82, Try.ntmps82
    go_wp2
    go_ret
    exact ⟨_, rfl, World.ownsRow_nil _ _ _ _, Below.refl _ _⟩
  · have he := fun w' : World => Lib.run_eql_slice_nil (P := Try.prog) w' 32 5 (some ad) xs.length c 0 0 Try.underlying32
    go_enter Try.func82, Try.ntmps82
    go_wp2_with (first | (at_builtin; go_loud (refine wpList_app _ rfl _ _ 32 rfl 5 1 1 _ Try.underlying32 info5 rfl (by decide) _ 0 [] rfl (World.ownsRow_made _ #[] 0 (Nat.zero_le _) (Nat.zero_le _) rfl) _ xs.length (xs.map (Value.int .u8)) rfl ?hsrc ?h63 ?hby ?_)))
    case hsrc => exact H.out.alloc _
    case h63 => unfold maxLen; omega
    case hby => omega
    intro v1 w1 hap
    go_wp2
    go_ret
    exact newRow_made hap
theorem clone64_any (w : World) (v : Value) (xs : List Int) (h : IntsAt w v xs) (hn : xs.length * 8 ≤ 140737488355328) :
    Calls Try.prog 64 #[v] w (NewRow w 3 1 xs.length (xs.map (Value.int .i64))) := by
  have H := Lib.hid h
  rcases h with ⟨rfl, h0, -⟩ | ⟨ad, c, rfl, -⟩
  · have hx : xs = [] := by simpa using h0
    subst hx
    clear hn h0
    have he := fun w' : World => Lib.run_eql_slice_nil (P := Try.prog) w' 57 3 none 0 0 0 0 Try.underlying57
    go_enter Try.func64, Try.ntmps64
    go_wp2
    go_ret
    exact ⟨_, rfl, World.ownsRow_nil _ _ _ _, Below.refl _ _⟩
  · have he := fun w' : World => Lib.run_eql_slice_nil (P := Try.prog) w' 57 3 (some ad) xs.length c 0 0 Try.underlying57
    go_enter Try.func64, Try.ntmps64
    go_wp2_with (first | (at_builtin; go_loud (refine wpList_app _ rfl _ _ 57 rfl 3 1 8 _ Try.underlying57 info3 rfl (by decide) _ 0 [] rfl (World.ownsRow_made _ #[] 0 (Nat.zero_le _) (Nat.zero_le _) rfl) _ xs.length (xs.map (Value.int .i64)) rfl ?hsrc ?h63 ?hby ?_)))
    case hsrc => exact H.out.alloc _
    case h63 => unfold maxLen; omega
    case hby => omega
    intro v1 w1 hap
    go_wp2
    go_ret
    exact newRow_made hap
end Go.Proofs.Ytkefciacdmbidaa
