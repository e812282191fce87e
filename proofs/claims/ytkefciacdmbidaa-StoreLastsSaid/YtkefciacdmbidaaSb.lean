/- Read, Loose, forget and what it calls: contracts of package store. -/
import Derived.Test.YtkefciacdmbidaaSa
import Derived.Test.YtkefciacdmbidaaAp
namespace Go.Proofs.Ytkefciacdmbidaa
open Go.RowKit Go.WideMaps Go.Maps

def SD.data (S : SD) (nm : List UInt8) : List Int := match getF nm S.files with | some f => f.data | none => []

theorem SD.lookup {S : SD} {w : World} {m : Nat} (h : MapIs w m S.ids) (nm : ByteArray) (hn : nm.size ≤ maxLen) :
    (Instr.lookup 85 (.map (some m)) (.string nm) false).run Try.prog w = .ok (ptrOf ((getF nm.data.toList S.files).map SF.id)) w := by
  rw [h.lookup nm hn, show S.ids = S.files.map (fun x => (x.1, SF.id x.2)) from rfl, getF_map]

theorem file_le {S : SD} {k : List UInt8} {f : SF} (hok : S.Ok) (h : (k, f) ∈ S.files) : f.data.length ≤ S.size := by
  have := lens_ers hok.names_ne h
  unfold SD.size
  omega

def ReadPost (w : World) (S : SD) (nm : List UInt8) (e : Ending) (w' : World) : Prop :=
  ∃ v, e = .returned (.tuple #[v, .bool (getF nm S.files).isSome]) ∧ w'.ownsRow w.heap.size 5 1 v (S.data nm).length ((S.data nm).map (Value.int .u8)) ∧ Below w.heap.size w w'

theorem read_any {F : Nat → Prop} {d : Nat} {S : SD} {w : World} (hd : DiskAt F w d S) (hok : S.Ok) (nm : ByteArray) (hn : nm.size ≤ maxLen) :
    Calls Try.prog 30 #[.pointer (some ⟨d, 0, none⟩), .string nm] w (ReadPost w S nm.data.toList) := by
  obtain ⟨role, m, lv, hd, -⟩ := hd
  have c0 := hd.c0
  have hlk := SD.lookup hd.map nm hn
  cases hg : getF nm.data.toList S.files with
  | none =>
    rw [hg] at hlk
    have hlk' : (Instr.lookup 85 (.map (some m)) (.string nm) false).run Try.prog w = .ok (.pointer none) w := hlk
    have Hg := Lib.hid hg
    clear hd hok hlk hg hn
    go_enter Try.func30, Try.ntmps30
    go_wp2
    go_ret2
    exact ⟨_, by rw [Hg.out]; rfl, by unfold SD.data; rw [Hg.out]; exact World.ownsRow_nil _ _ _ _, Below.refl _ _⟩
  | some f =>
    rw [hg] at hlk
    have hlk' : (Instr.lookup 85 (.map (some m)) (.string nm) false).run Try.prog w = .ok (.pointer (some ⟨f.id, 0, none⟩)) w := hlk
    have hmem := getF_some hg
    obtain ⟨-, dv, -, hb, hrow⟩ := hd.file _ hmem
    have c1 : w.cell? ⟨f.id, 0, none⟩ = some dv := by rw [cell_of hb]; rfl
    have hle := file_le hok hmem
    have hle2 := hok.room
    have hle3 := hok.limit
    have hcl := clone59_any w dv f.data (by have := ownsRow_srcs hrow (one_u8 _); simpa [BytesAt] using this) (by omega)
    have Hg := Lib.hid hg
    have Hcl := Lib.hid hcl
    clear hd hok hlk hg hn hb hrow hle hle2 hle3 hcl
    go_enter Try.func30, Try.ntmps30
    go_wp2_with fail
    refine Hcl.out.mono ?_
    rintro e w' ⟨v, rfl, hown, hbel⟩
    go_wp2
    go_ret2
    exact ⟨_, by rw [Hg.out]; rfl, by unfold SD.data; rw [Hg.out]; exact hown, hbel⟩
end Go.Proofs.Ytkefciacdmbidaa
