/- The argument of a law of store, opened: a slice of calls. -/
import Derived.Test.YtkefciacdmbidaaGe
import Derived.WalkKit
import Derived.ProofKit
import Derived.OpenShut
import Derived.ShutString
import Derived.ChangeOld
import Derived.Below
import Derived.SizedLaws
import Derived.Deep.Slices
import Derived.Deep.Strs
namespace Go.Proofs.Ytkefciacdmbidaa
open Go.ChangeShapes Go.WideShapes Go.ChangeAt Go.RowKit Go.Deep

theorem cells34 : Try.prog.cellsOf 34 = 5 := by kernel_rfl
theorem bytes34 : Try.prog.bytesOf 34 = 72 := by kernel_rfl
theorem cells3 : Try.prog.cellsOf 3 = 1 := by kernel_rfl
theorem cells9 : Try.prog.cellsOf 9 = 1 := by kernel_rfl
theorem cells32 : Try.prog.cellsOf 32 = 1 := by kernel_rfl
theorem cells5 : Try.prog.cellsOf 5 = 1 := by kernel_rfl
theorem bytes5 : Try.prog.bytesOf 5 = 1 := by kernel_rfl

theorem list5 {α : Type} {l : List α} (h : l.length = 5) : ∃ a b c d e, l = [a, b, c, d, e] := by
  match l, h with
  | [a, b, c, d, e], _ => exact ⟨a, b, c, d, e, rfl⟩
theorem u8_range {n : Int} (h : (Lit.int .u8 n).wf = true) : 0 ≤ n ∧ n < 256 := by
  simp only [Lit.wf, Bool.and_eq_true, decide_eq_true_eq] at h
  have h1 : IntKind.u8.min = 0 := rfl
  have h2 : IntKind.u8.max = 255 := rfl
  omega
theorem i64_range {n : Int} (h : (Lit.int .i64 n).wf = true) : -9223372036854775808 ≤ n ∧ n ≤ 9223372036854775807 := by
  simp only [Lit.wf, Bool.and_eq_true, decide_eq_true_eq] at h
  have h1 : IntKind.i64.min = -9223372036854775808 := rfl
  have h2 : IntKind.i64.max = 9223372036854775807 := rfl
  omega

section
variable {H : Type} {enc : TypeId × Value → H} {w : World}

/-- bytes that a reading has reached -/
theorem open_bytes {fuel : Nat} {v : Value} {x : DataW H × List MemPlace} (h : DataW.trod enc Try.prog w 0 (fun _ => true) true fuel 32 [v] = some x) (hz : ∀ n ∈ x.1.weights Try.prog 32, n ≤ reachBytes) :
    ∃ xs : List Int, BytesAt w v xs ∧ (∀ ad n k, v = .slice (some ad) n k → 0 < n → ad.block < w.heap.size) ∧ xs.length ≤ 140737488351232 ∧ ∀ n ∈ xs, 0 ≤ n ∧ n < 256 := by
  rcases open_ints Try.underlying32 Try.underlying5 cells5 h with ⟨hcs, _⟩ | ⟨a, len, cap, zs, hcs, -, hl, hm, hzs, hx, hcell, hwf⟩
  · cases hcs
    exact ⟨[], Or.inl ⟨rfl, rfl, rfl⟩, ⟨fun ad n k e => by simp at e, ⟨Nat.zero_le _, fun n hn => absurd hn List.not_mem_nil⟩⟩⟩
  · cases hcs
    have hzl : zs.length = cap := by simpa using hzs
    have htl : (zs.take len).length = len := by simp; omega
    have hcl : ∀ j, j < len → w.cell? (a.add j) = some (.int .u8 (zs.getD j 0)) := fun j hj => hcell j (by omega)
    refine ⟨zs.take len, ?_, fun ad n k e h0 => ?_, ?_, fun n hn => ?_⟩
    · refine Or.inr ⟨a, cap, by rw [htl], by rw [htl]; exact hl, by simp, fun j u hj => ?_, one_u8 _⟩
      have hjl : j < len := by
        have := (List.getElem?_eq_some_iff.1 hj).1
        simp at this
        omega
      rw [hcl j hjl, ← hj]
      simp [hjl, show j < zs.length by omega]
    · cases e
      have := World.block_lt_of_cell? w _ (hcl 0 h0)
      exact this
    · have := hz ((zs.length) * Try.prog.bytesOf 5) (by
        rw [hx]
        have e : (lits (H := H) .u8 (zs.take len)).length + (lits (H := H) .u8 (zs.drop len)).length = zs.length := by
          rw [show (lits (H := H) .u8 (zs.take len)).length = (zs.take len).length by simp [lits], show (lits (H := H) .u8 (zs.drop len)).length = (zs.drop len).length by simp [lits]]
          simp
          omega
        simp only [DataW.weights, Try.underlying32]
        rw [e]
        exact List.mem_cons_self)
      rw [bytes5] at this
      have h2 : zs.length * 1 ≤ 0x7ffffffff000 := this
      rw [htl]
      omega
    · have := hwf n (List.mem_of_mem_take hn)
      exact u8_range this

/-- a call that a reading has reached -/
theorem open_call {fuel : Nat} {cs : List Value} {x : DataW H × List MemPlace} (h : DataW.trod enc Try.prog w 0 (fun _ => true) true fuel 34 cs = some x) (hz : ∀ n ∈ x.1.weights Try.prog 34, n ≤ reachBytes) :
    ∃ c : CallM, cs = [.int .i64 c.what, .string c.nm, .string c.to, c.dv, .int .i64 c.n] ∧ BytesAt w c.dv c.data ∧ (∀ ad n k, c.dv = .slice (some ad) n k → 0 < n → ad.block < w.heap.size) ∧
      c.nm.size ≤ 140737488351232 ∧ c.to.size ≤ 140737488351232 ∧ c.data.length ≤ 140737488351232 ∧ -9223372036854775808 ≤ c.n ∧ c.n ≤ 9223372036854775807 := by
  obtain ⟨xs, n, -, rfl, hl, hxl, hf⟩ := DataW.trod_struct Try.underlying34 h
  rw [cells34] at hl
  obtain ⟨c0, c1, c2, c3, c4, rfl⟩ := list5 hl
  obtain ⟨y0, y1, y2, y3, y4, rfl⟩ := list5 hxl
  have t0 : DataW.trod enc Try.prog w 0 (fun _ => true) true n 3 [c0] = some y0 := by simpa [cells3] using hf 0 _ rfl
  have t1 : DataW.trod enc Try.prog w 0 (fun _ => true) true n 9 [c1] = some y1 := by simpa [cells9] using hf 1 _ rfl
  have t2 : DataW.trod enc Try.prog w 0 (fun _ => true) true n 9 [c2] = some y2 := by simpa [cells9] using hf 2 _ rfl
  have t3 : DataW.trod enc Try.prog w 0 (fun _ => true) true n 32 [c3] = some y3 := by simpa [cells32] using hf 3 _ rfl
  have t4 : DataW.trod enc Try.prog w 0 (fun _ => true) true n 3 [c4] = some y4 := by simpa [cells3] using hf 4 _ rfl
  obtain ⟨n0, e0, -, -⟩ := DataW.trod_int Try.underlying3 t0
  obtain ⟨s1, e1, r1, -⟩ := DataW.trod_string Try.underlying9 t1
  obtain ⟨s2, e2, r2, -⟩ := DataW.trod_string Try.underlying9 t2
  obtain ⟨n4, e4, -, w4⟩ := DataW.trod_int Try.underlying3 t4
  cases e0
  cases e1
  cases e2
  cases e4
  have hz' : ∀ n ∈ DataW.weightsEach Try.prog [3, 9, 9, 32, 3] [y0.1, y1.1, y2.1, y3.1, y4.1], n ≤ reachBytes := fun n hn => hz n (by
    simp only [DataW.weights, Try.underlying34]
    exact hn)
  have z1 := fun n hn => hz' n (DataW.weights_mem_each (j := 1) rfl rfl n hn)
  have z2 := fun n hn => hz' n (DataW.weights_mem_each (j := 2) rfl rfl n hn)
  have z3 := fun n hn => hz' n (DataW.weights_mem_each (j := 3) rfl rfl n hn)
  obtain ⟨xs, hb, hlow, hlen, -⟩ := open_bytes t3 z3
  refine ⟨⟨n0, s1, s2, c3, xs, n4⟩, rfl, hb, hlow, ?_, ?_, hlen, ?_⟩
  · have := z1 s1.data.toList.length (by rw [r1]; simp [DataW.weights])
    simpa [reachBytes] using this
  · have := z2 s2.data.toList.length (by rw [r2]; simp [DataW.weights])
    simpa [reachBytes] using this
  · exact i64_range w4
theorem add_flat (b off i : Nat) : (⟨b, off, none⟩ : Addr).add i = ⟨b, off + i, none⟩ := by
  unfold Addr.add
  split
  · subst_vars
    rfl
  · rfl

theorem weights_all {P : Program} {e : TypeId} {l : List (DataW H)} {d : DataW H} (hd : d ∈ l) {n : Nat} (hn : n ∈ d.weights P e) : n ∈ DataW.weightsAll P e l := by
  induction l with
  | nil => exact absurd hd List.not_mem_nil
  | cons a r ih =>
    simp only [DataW.weightsAll, List.mem_append]
    rcases List.mem_cons.1 hd with h | h
    · exact Or.inl (h ▸ hn)
    · exact Or.inr (ih h)

/-- the calls that a law gets -/
theorem open_calls {A : Option Addr} {len cap : Nat} {d : DataW H} {ps : List MemPlace} (h : DataW.Trod enc Try.prog w 0 (fun _ => true) true 22 (.slice A len cap) d ps) (hz : ∀ n ∈ d.weights Try.prog 22, n ≤ reachBytes) :
    ∃ cs : List CallM, cs.length = len ∧ CallsAt w w.heap.size A cs ∧ cs.length ≤ 140737488351232 := by
  obtain ⟨fuel, hf⟩ := h
  rcases open_slice Try.underlying22 hf with ⟨hcs, _⟩ | ⟨a, len', cap', m, n, D, Pl, hcs, -, hl, hm, hmm, hx, hel⟩
  · simp [Value.cells] at hcs
    obtain ⟨rfl, rfl, rfl⟩ := hcs
    exact ⟨[], rfl, ⟨fun h => absurd rfl h⟩, Nat.zero_le _⟩
  · simp [Value.cells] at hcs
    obtain ⟨rfl, rfl, rfl⟩ := hcs
    have hd : d = .slice ((List.range len).map D) ((List.range (m - len)).map fun j => D (len + j)) := congrArg Prod.fst hx
    have hz2 : ∀ i, i < len → ∀ n ∈ (D i).weights Try.prog 34, n ≤ reachBytes := fun i hi n hn => hz n (by
      rw [hd]
      simp only [DataW.weights, Try.underlying22]
      refine List.mem_cons_of_mem _ (List.mem_append_left _ (weights_all (d := D i) ?_ hn))
      exact List.mem_map.2 ⟨i, List.mem_range.2 hi, rfl⟩)
    have hmcap : m = cap := by simpa using hmm
    have hlen : len ≤ 140737488351232 := by
      have := hz ((((List.range len).map D).length + ((List.range (m - len)).map fun j => D (len + j)).length) * Try.prog.bytesOf 34) (by
        rw [hd]
        simp only [DataW.weights, Try.underlying22]
        exact List.mem_cons_self)
      rw [bytes34] at this
      simp [reachBytes] at this
      omega
    rw [cells34] at hel
    have each : ∀ i, i < len → ∃ c : CallM, ∃ cs, w.cells? 0 (a.add (i * 5)) 5 = some cs ∧ cs = [.int .i64 c.what, .string c.nm, .string c.to, c.dv, .int .i64 c.n] ∧ BytesAt w c.dv c.data ∧ (∀ ad n k, c.dv = .slice (some ad) n k → 0 < n → ad.block < w.heap.size) ∧
        c.nm.size ≤ 140737488351232 ∧ c.to.size ≤ 140737488351232 ∧ c.data.length ≤ 140737488351232 ∧ -9223372036854775808 ≤ c.n ∧ c.n ≤ 9223372036854775807 := fun i hi => by
      obtain ⟨cs, h1, h2⟩ := hel i (by omega)
      obtain ⟨c, h3, h4⟩ := open_call h2 (hz2 i hi)
      exact ⟨c, cs, h1, h3, h4⟩
    haveI : Inhabited CallM := ⟨⟨0, ByteArray.empty, ByteArray.empty, .bool false, [], 0⟩⟩
    obtain ⟨f, hfc⟩ := choose_lt each
    refine ⟨(List.range len).map f, by simp, ⟨fun hne => ?_⟩, by simpa using hlen⟩
    have h0 : 0 < len := by
      rcases Nat.eq_zero_or_pos len with h | h
      · subst h
        exact absurd rfl hne
      · exact h
    have hspot : a.spot = none := by
      obtain ⟨cs, h1, h2, -⟩ := hfc 0 h0
      have := (World.cells?_some h1).2.2 0 (by omega)
      rw [h2] at this
      have hs := World.cell?_spot this
      rw [show (0 : Nat) * 5 = 0 from rfl] at hs
      unfold Addr.add at hs
      simpa using hs
    obtain ⟨b, off, sp⟩ := a
    simp only at hspot
    subst hspot
    refine ⟨b, off, rfl, fun i hi => ?_⟩
    have hil : i < len := by simpa using hi
    rw [List.getElem_map, List.getElem_range]
    obtain ⟨cs, h1, h2, h3, h4, h5, h6, h7, h8⟩ := hfc i hil
    have hc := (World.cells?_some h1).2.2
    rw [h2, add_flat] at hc
    have hcj : ∀ j, j < 5 → w.cell? ⟨b, off + i * 5 + j, none⟩ = [Value.int .i64 (f i).what, .string (f i).nm, .string (f i).to, (f i).dv, .int .i64 (f i).n][j]? := fun j hj => by
      have := hc j hj
      rw [add_flat] at this
      exact this
    exact ⟨hcj 0 (by omega), hcj 1 (by omega), hcj 2 (by omega), hcj 3 (by omega), hcj 4 (by omega), h3, h4, World.block_lt_of_cell? w _ (hcj 0 (by omega)), by omega, by omega, by omega, h8.1, h8.2⟩
end
end Go.Proofs.Ytkefciacdmbidaa
