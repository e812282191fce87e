/- Texts: the order of two texts. -/
import Derived.Test.YtkefciacdmbidaaUb
namespace Go.Proofs.Ytkefciacdmbidaa
open Go.RowKit Go.WideMaps Go.Maps

def texts : List UInt8 → List UInt8 → Int
  | [], [] => 0
  | [], _ :: _ => -1
  | _ :: _, [] => 1
  | a :: r, b :: s => if a = b then texts r s else if a < b then -1 else 1

theorem texts_self : ∀ a : List UInt8, texts a a = 0
  | [] => rfl
  | a :: r => by simp [texts, texts_self r]
theorem texts_zero : ∀ {a b : List UInt8}, texts a b = 0 → a = b
  | [], [], _ => rfl
  | [], _ :: _, h => by simp [texts] at h
  | _ :: _, [], h => by simp [texts] at h
  | a :: r, b :: s, h => by
    unfold texts at h
    by_cases e : a = b
    · rw [if_pos e] at h
      rw [e, texts_zero h]
    · rw [if_neg e] at h
      split at h <;> simp at h
theorem texts_before : ∀ {a b : List UInt8}, Go.bytesBefore a b = true → texts a b = -1
  | [], [], h => by simp [Go.bytesBefore] at h
  | [], _ :: _, _ => rfl
  | _ :: _, [], h => by simp [Go.bytesBefore] at h
  | a :: r, b :: s, h => by
    simp only [Go.bytesBefore, Bool.or_eq_true, decide_eq_true_eq, Bool.and_eq_true, beq_iff_eq] at h
    unfold texts
    rcases h with h | ⟨h1, h2⟩
    · have hne : a ≠ b := fun e => by rw [e] at h; exact absurd h (UInt8.lt_irrefl _)
      rw [if_neg hne, if_pos h]
    · rw [if_pos h1, texts_before h2]
theorem texts_after : ∀ {a b : List UInt8}, Go.bytesBefore b a = true → texts a b = 1
  | [], [], h => by simp [Go.bytesBefore] at h
  | _ :: _, [], _ => rfl
  | [], _ :: _, h => by simp [Go.bytesBefore] at h
  | a :: r, b :: s, h => by
    simp only [Go.bytesBefore, Bool.or_eq_true, decide_eq_true_eq, Bool.and_eq_true, beq_iff_eq] at h
    unfold texts
    rcases h with h | ⟨h1, h2⟩
    · have hne : a ≠ b := fun e => by rw [e] at h; exact absurd h (UInt8.lt_irrefl _)
      have hnl : ¬ a < b := fun e => absurd (UInt8.lt_trans e h) (UInt8.lt_irrefl _)
      rw [if_neg hne, if_neg hnl]
    · rw [if_pos h1.symm, texts_after h2]

theorem texts_drop {a b : List UInt8} {k : Nat} (h1 : k < a.length) (h2 : k < b.length) : texts (a.drop k) (b.drop k) = if a[k] = b[k] then texts (a.drop (k + 1)) (b.drop (k + 1)) else if a[k] < b[k] then -1 else 1 := by
  rw [List.drop_eq_getElem_cons h1, List.drop_eq_getElem_cons h2, texts]

def IsI (w : World) (n : Int) (e : Ending) (w' : World) : Prop := e = .returned (.int .i64 n) ∧ Below w.heap.size w w'

def IsQ (w : World) (n : Int) (e : Ending) (w' : World) : Prop := e = .returned (.int .i64 n) ∧ ∃ m, w' = w.drewN m
theorem IsQ.isI {w w' : World} {n : Int} {e : Ending} (h : IsQ w n e w') : IsI w n e w' := by
  obtain ⟨he, m, rfl⟩ := h
  exact ⟨he, rfl, rfl, rfl, Nat.le_refl _, fun _ _ => rfl⟩

theorem texts_quiet (w : World) (s t : ByteArray) (hs : s.size ≤ 140737488355328) :
    Calls Try.prog 33 #[.string s, .string t] w (IsQ w (texts s.data.toList t.data.toList)) := by
  go_enter Try.func33, Try.ntmps33
  go_wp2_with fail
  go_loopw [5] (fun i wr => ∃ k : Nat, k ≤ s.size ∧ k ≤ t.size ∧ i = .int .i64 k ∧ texts s.data.toList t.data.toList = texts (s.data.toList.drop k) (t.data.toList.drop k) ∧ ∃ m, wr = w.drewN m) (fun i _ => s.size - (intOf i).toNat)
  case atStart => exact ⟨0, Nat.zero_le _, Nat.zero_le _, rfl, rfl, 0, rfl⟩
  case round =>
    obtain ⟨k, hk1, hk2, rfl, heq, dm, rfl⟩ := hrel
    have Heq := Lib.hid heq
    clear heq
    by_cases h1 : k < s.size
    · by_cases h2 : k < t.size
      · have hd := texts_drop (a := s.data.toList) (b := t.data.toList) (k := k) h1 h2
        have e1 : s.data.toList[k]'h1 = s[k] := rfl
        have e2 : t.data.toList[k]'h2 = t[k] := rfl
        rw [e1, e2] at hd
        have Hd := Lib.hid hd
        clear hd e1 e2
        by_cases hxy : s[k] = t[k]
        · have hne : (((s[k].toNat : Nat) : Int) != ((t[k].toNat : Nat) : Int)) = false := by simp [hxy]
          have Hxy := Lib.hid hxy
          clear hxy
          go_wp2
          go_region
          go_wp2
          go_roundw
          case rel => exact ⟨k + 1, by omega, by omega, by go_num, by rw [Heq.out, Hd.out, if_pos Hxy.out], _, rfl⟩
          case measure => simp [intOf]; omega
        · have hnn : s[k].toNat ≠ t[k].toNat := fun e => hxy (UInt8.toNat_inj.1 e)
          have hne : (((s[k].toNat : Nat) : Int) != ((t[k].toNat : Nat) : Int)) = true := by simp; omega
          have Hxy := Lib.hid hxy
          by_cases hlt : s[k].toNat < t[k].toNat
          · have Hlt := Lib.hid (show s[k] < t[k] from hlt)
            clear hxy hnn
            go_wp2
            go_region
            go_wp2
            go_region
            go_wp2
            go_ret
            exact ⟨ret_int (by rw [Heq.out, Hd.out, if_neg Hxy.out, if_pos Hlt.out]), _, rfl⟩
          · have Hlt := Lib.hid (show ¬ s[k] < t[k] from hlt)
            clear hxy hnn
            go_wp2
            go_region
            go_wp2
            go_region
            go_wp2
            go_ret
            exact ⟨ret_int (by rw [Heq.out, Hd.out, if_neg Hxy.out, if_neg Hlt.out]), _, rfl⟩
      · have hk : k = t.size := by omega
        have hend : texts (s.data.toList.drop k) (t.data.toList.drop k) = 1 := by
          have l1 : s.data.toList.length = s.size := rfl
          have l2 : t.data.toList.length = t.size := rfl
          rw [show t.data.toList.drop k = [] from List.drop_eq_nil_of_le (by omega), List.drop_eq_getElem_cons (l := s.data.toList) (by omega)]
          rfl
        have Hend := Lib.hid hend
        have h3 : ¬ s.size < t.size := by omega
        have h4 : t.size < s.size := by omega
        clear hend hk
        go_wp2
        go_ret
        exact ⟨ret_int (by rw [Heq.out, Hend.out]), _, rfl⟩
    · have hk : k = s.size := by omega
      have l1 : s.data.toList.length = s.size := rfl
      have l2 : t.data.toList.length = t.size := rfl
      by_cases h2 : k < t.size
      · have hend : texts (s.data.toList.drop k) (t.data.toList.drop k) = -1 := by
          rw [show s.data.toList.drop k = [] from List.drop_eq_nil_of_le (by omega), List.drop_eq_getElem_cons (l := t.data.toList) (by omega)]
          rfl
        have Hend := Lib.hid hend
        have h3 : s.size < t.size := by omega
        clear hend hk l1 l2
        go_wp2
        go_ret
        exact ⟨ret_int (by rw [Heq.out, Hend.out]), _, rfl⟩
      · have hend : texts (s.data.toList.drop k) (t.data.toList.drop k) = 0 := by
          rw [show s.data.toList.drop k = [] from List.drop_eq_nil_of_le (by omega), show t.data.toList.drop k = [] from List.drop_eq_nil_of_le (by omega)]
          rfl
        have Hend := Lib.hid hend
        have h3 : ¬ s.size < t.size := by omega
        have h4 : ¬ t.size < s.size := by omega
        clear hend hk l1 l2
        go_wp2
        go_ret
        exact ⟨ret_int (by rw [Heq.out, Hend.out]), _, rfl⟩

theorem texts_any (w : World) (s t : ByteArray) (hs : s.size ≤ 140737488355328) :
    Calls Try.prog 33 #[.string s, .string t] w (IsI w (texts s.data.toList t.data.toList)) := (texts_quiet w s t hs).mono fun _ _ h => h.isI
end Go.Proofs.Ytkefciacdmbidaa
