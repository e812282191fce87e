/- All, as the document says it. -/
import Derived.Test.YtkefciacdmbidaaIb
namespace Go.Proofs.Ytkefciacdmbidaa
open Go.RowKit Go.WideMaps Go.Maps

/-- rows of bytes that lie outside of the row that holds them -/
structure FramesC (w wr : World) (o : Value) (fs : List (List Int)) (vs : List Value) : Prop where
  row : Buf 32 1 w wr o fs.length vs
  len : vs.length = fs.length
  each : ∀ j (h : j < fs.length), ∃ u, vs[j]? = some u ∧ Outside (fun k => o.ownBlock = some k) wr u fs[j]
theorem FramesC.step {w wr w' : World} {o : Value} {fs : List (List Int)} {vs : List Value} (h : FramesC w wr o fs vs) (hb : Below wr.heap.size wr w') : FramesC w w' o fs vs :=
  ⟨h.row.step hb, h.len, fun j hj => by
    obtain ⟨u, h1, h2⟩ := h.each j hj
    exact ⟨u, h1, h2.below hb⟩⟩
theorem FramesC.app {w wr w' : World} {o o' u : Value} {fs : List (List Int)} {vs : List Value} {f : List Int} (h : FramesC w wr o fs vs) (hf : Outside (fun k => o.ownBlock = some k) wr u f)
    (ha : Appended (wr.alloc (.cells #[u] 32)) w' o o' 32 1 fs.length 1 (vs ++ [u])) : FramesC w w' o' (fs ++ [f]) (vs ++ [u]) := by
  have hb : Below wr.heap.size wr (wr.alloc (.cells #[u] 32)) := (Below.refl _ _).alloc (Nat.le_refl _) _
  have hrow := h.row.app hb ha
  have hkeep : ∀ (z : Value) (g : List Int), Outside (fun k => o.ownBlock = some k) wr z g → Outside (fun k => o'.ownBlock = some k) w' z g := fun z g hz => by
    have hz1 := hz.below hb
    refine ⟨hz1.same ⟨ha.grown.os, ha.grown.tape, ha.grown.output, ha.grown.size, fun k hk hne => ha.grown.block k hk fun e => hne e.symm⟩, fun ad n c e h0 => ⟨fun e2 => ?_, Nat.lt_of_lt_of_le (hz1.out ad n c e h0).2 ha.grown.size⟩⟩
    rcases ha.loc with hl | hl
    · exact (hz1.out ad n c e h0).1 (by rw [← hl]; exact e2)
    · rw [hl] at e2
      have h3 := (hz1.out ad n c e h0).2
      simp only [Option.some.injEq] at e2
      omega
  refine ⟨by rw [List.length_append]; exact hrow, by simp [h.len], fun j hj => ?_⟩
  rw [List.length_append, List.length_singleton] at hj
  by_cases hlt : j < fs.length
  · obtain ⟨z, h1, h2⟩ := h.each j hlt
    refine ⟨z, by rw [List.getElem?_append_left (by rw [h.len]; exact hlt)]; exact h1, ?_⟩
    rw [List.getElem_append_left hlt]
    exact hkeep z _ h2
  · have e : j = fs.length := by omega
    subst e
    refine ⟨u, by rw [List.getElem?_append_right (by rw [h.len]; exact Nat.le_refl _), h.len]; simp, ?_⟩
    rw [List.getElem_append_right (Nat.le_refl _)]
    simp only [Nat.sub_self, List.getElem_singleton]
    exact hkeep u _ hf
theorem FramesC.rows {w wr : World} {o : Value} {fs : List (List Int)} {vs : List Value} (h : FramesC w wr o fs vs) : RowsAt wr o fs := by
  obtain ⟨A, c, rfl⟩ := h.row.slice
  refine ⟨A, c, rfl, fun hne => ?_⟩
  have h0 : 0 < fs.length := List.length_pos_iff.2 hne
  rcases h.row.own.2 with ⟨e1, e2⟩ | ⟨g, cap, cur, e1, -, hg, -⟩
  · omega
  · simp only [Value.slice.injEq] at e1
    obtain ⟨rfl, -, -⟩ := e1
    refine ⟨g, 0, rfl, (Array.getElem?_eq_some_iff.1 hg).1, fun j hj => ?_⟩
    obtain ⟨u, h1, h2⟩ := h.each j hj
    have := h.row.own.cells (g := g) rfl j _ h1
    rw [add_flat'] at this
    exact ⟨_, this, h2.bytes⟩

/-- how All runs -/
structure RAllAt (w wr : World) (xs : List Int) (o rv : Value) (fs : List (List Int)) (ys : List Int) : Prop where
  eq : allB xs = (fs ++ (allB ys).1, (allB ys).2)
  fr : ∃ vs, FramesC w wr o fs vs
  rest : BytesAt wr rv ys
  oct : Octets ys
  len : ys.length + fs.length ≤ xs.length

set_option maxRecDepth 10000 in
set_option maxHeartbeats 1000000 in
theorem rall_any (w : World) (v : Value) (xs : List Int) (h : BytesAt w v xs) (ho : Octets xs) (hn : xs.length ≤ 1000000000) : Calls Try.prog 67 #[v] w (AllPost w xs.length (allB xs)) := by
  obtain ⟨A, cap, rfl, hcap⟩ := Srcs.slice h
  have h0 : RAllAt w (w.alloc (.cells #[] 32)) xs (.slice (some ⟨w.heap.size, 0, none⟩) 0 0) (.slice A xs.length cap) [] xs := ⟨rfl, ⟨[], Buf.made 32 1 (Below.refl _ _), rfl, fun j hj => by simp at hj⟩, h.alloc _, ho, by simp⟩
  have H0 := Lib.hid h0
  clear h ho h0
  go_enter Try.func67, Try.ntmps67
  go_wp2_with fail
  go_loopw [5, 6] (fun o r wr => ∃ (B : Option Addr) (bc : Nat) (R : Option Addr) (rc : Nat) (fs : List (List Int)) (ys : List Int), o = .slice B fs.length bc ∧ r = .slice R ys.length rc ∧ RAllAt w wr xs (.slice B fs.length bc) (.slice R ys.length rc) fs ys) (fun _ r _ => match r with | .slice _ n _ => n | _ => 0)
  case atStart => exact ⟨_, _, _, _, [], xs, rfl, rfl, H0.out⟩
  case round =>
    obtain ⟨B, bc, R, rc, fs, ys, rfl, rfl, hat⟩ := hrel
    have hle := hat.len
    have Hat := Lib.hid hat
    clear hat H0
    by_cases hlt : 0 < ys.length
    · have hne : ys ≠ [] := fun e => by rw [e] at hlt; simp at hlt
      have hst := allB_step hne
      have hnx := rnext_any wr _ ys Hat.out.rest Hat.out.oct (by omega)
      have Hst := Lib.hid hst
      have Hnx := Lib.hid hnx
      clear hst hnx hne
      go_wp2_with fail
      refine Hnx.out.mono ?_
      intro e w1 hp
      cases hN : nextB ys with
      | torn =>
        rw [hN] at hp
        obtain ⟨hb1, rfl⟩ := hp
        have Hb1 := Lib.hid hb1
        have hst2 := Hst.out
        rw [hN] at hst2
        have Hst2 := Lib.hid hst2
        clear hb1 hst2
        go_wp2
        go_ret3
        obtain ⟨vs, hfr⟩ := Hat.out.fr
        have heq := Hat.out.eq
        rw [Hst2.out, List.append_nil] at heq
        rw [heq]
        exact ⟨_, rfl, ((hfr.step Hb1.out).rows), (hfr.step Hb1.out).row.below⟩
      | bad =>
        rw [hN] at hp
        obtain ⟨hb1, rfl⟩ := hp
        have Hb1 := Lib.hid hb1
        have hst2 := Hst.out
        rw [hN] at hst2
        have Hst2 := Lib.hid hst2
        clear hb1 hst2
        go_wp2
        go_ret3
        obtain ⟨vs, hfr⟩ := Hat.out.fr
        have heq := Hat.out.eq
        rw [Hst2.out, List.append_nil] at heq
        rw [heq]
        exact ⟨_, rfl, ((hfr.step Hb1.out).rows), (hfr.step Hb1.out).row.below⟩
      | whole f r =>
        rw [hN] at hp
        obtain ⟨hb1, v1, v2, rfl, hfo, hr⟩ := hp
        obtain ⟨R2, rc2, rfl, -⟩ := ownsRow_slice hr
        obtain ⟨R1, cc, rfl, -⟩ := ownsRow_slice hfo
        have hst2 := Hst.out
        rw [hN] at hst2
        obtain ⟨hsh, j, hj⟩ := nextB_shorter hN
        obtain ⟨vs, hfr⟩ := Hat.out.fr
        have hfr1 := hfr.step hb1
        have Hfr0 := Lib.hid hfr
        have hf : Outside (fun k => (Value.slice B fs.length bc).ownBlock = some k) w1 (.slice R1 f.length cc) f := outside_row (fun k hk => (hfr.row.own.lt k hk).2) hfo
        have Hst2 := Lib.hid hst2
        have Hf := Lib.hid hf
        have Hr := Lib.hid hr
        have Hj := Lib.hid hj
        have Hfr1 := Lib.hid hfr1
        clear hst2 hb1 hf hr hj hfr hfr1 hfo
        go_wp2_with (first | (at_builtin; refine wpList_app _ rfl _ _ 54 rfl 32 1 24 _ Try.underlying54 info32 rfl (by decide) _ fs.length vs rfl ((ownsRow_base0 Hfr1.out.row.own).alloc _) _ 1 [.slice R1 f.length cc] rfl (one_new w1 _ rfl) ?h63 ?hby ?_))
        case h63 => unfold maxLen; omega
        case hby => omega
        intro o' w7 ha
        have hfr7 := Hfr1.out.app Hf.out ha
        obtain ⟨A7, c7, rfl⟩ := hfr7.row.slice
        have hr7 : BytesAt w7 (.slice R2 r.length rc2) r := by
          refine ownsRow_srcs (ownsRow_block Hr.out fun k hk => ?_) (one_u8 _)
          have h1 := Hr.out.lt k hk
          refine (ha.grown.block k (by simp; omega) fun e => ?_).trans (Below.heap_alloc w1 _ k h1.2)
          have := (Hfr0.out.row.own.lt k e.symm).2
          omega
        have Hfr7 := Lib.hid hfr7
        have Hr7 := Lib.hid hr7
        clear hfr7 hr7 ha
        go_wp2
        have heq := Hat.out.eq
        rw [Hst2.out] at heq
        refine ⟨⟨A7, c7, R2, rc2, fs ++ [f], r, by simp, rfl, ⟨by rw [heq, List.append_assoc]; rfl, ⟨_, Hfr7.out⟩, Hr7.out, ?_, ?_⟩⟩, hsh⟩
        · rw [Hj.out]
          exact Hat.out.oct.drop j
        · rw [List.length_append, List.length_singleton]
          omega
    · have hy : ys = [] := List.length_eq_zero_iff.1 (by omega)
      subst hy
      go_wp2
      go_ret3
      obtain ⟨vs, hfr⟩ := Hat.out.fr
      have heq := Hat.out.eq
      rw [allB_nil, List.append_nil] at heq
      rw [heq]
      exact ⟨_, by simp, hfr.rows, hfr.row.below⟩
end Go.Proofs.Ytkefciacdmbidaa
