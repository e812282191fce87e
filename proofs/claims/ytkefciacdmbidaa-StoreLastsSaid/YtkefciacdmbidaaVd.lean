/- StoreLasts: the plain law. -/
import Derived.Test.YtkefciacdmbidaaVc
namespace Go.Proofs.Ytkefciacdmbidaa
open Go.RowKit Go.WideMaps Go.Maps

section
variable {α : Type}
theorem getF_cons (k : List UInt8) (y : List UInt8 × α) (r : List (List UInt8 × α)) : getF k (y :: r) = if y.1 = k then some y.2 else getF k r := by
  show (if y.1 == k then some y.2 else getF k r) = _
  by_cases h : y.1 = k <;> simp [h]
theorem getF_free {k : List UInt8} : ∀ {L : List (List UInt8 × α)}, (∀ p ∈ L, p.1 ≠ k) → getF k L = none
  | [], _ => rfl
  | y :: r, h => by
    rw [getF_cons, if_neg (h y List.mem_cons_self)]
    exact getF_free fun p hp => h p (List.mem_cons_of_mem _ hp)
theorem getF_ers_self (k : List UInt8) (L : List (List UInt8 × α)) : getF k (ers k L) = none := getF_free fun _ hp => (mem_ers.1 hp).2
theorem getF_ers_ne {b k : List UInt8} (h : b ≠ k) : ∀ L : List (List UInt8 × α), getF k (ers b L) = getF k L
  | [] => rfl
  | y :: r => by
    have ih := getF_ers_ne h r
    unfold ers at ih ⊢
    rw [List.filter_cons, getF_cons]
    by_cases hy : y.1 = b
    · have : y.1 ≠ k := fun e => h (hy.symm.trans e)
      simp [hy, ih, h]
    · simp [hy, ih, getF_cons]
theorem getF_sins_self {k : List UInt8} {a : α} : ∀ {L : List (List UInt8 × α)}, (∀ p ∈ L, p.1 ≠ k) → getF k (sins (k, a) L) = some a
  | [], _ => by simp [sins, getF]
  | y :: r, h => by
    unfold sins
    split
    · rw [getF_cons, if_pos rfl]
    · rw [getF_cons, if_neg (h y List.mem_cons_self)]
      exact getF_sins_self fun p hp => h p (List.mem_cons_of_mem _ hp)
theorem getF_sins_ne {b k : List UInt8} {a : α} (h : b ≠ k) : ∀ L : List (List UInt8 × α), getF k (sins (b, a) L) = getF k L
  | [] => by
    rw [sins, getF_cons, if_neg h]
  | y :: r => by
    unfold sins
    split
    · rw [getF_cons, if_neg h]
    · rw [getF_cons, getF_cons, getF_sins_ne h r]
theorem getF_put_self (k : List UInt8) (a : α) (L : List (List UInt8 × α)) : getF k (sins (k, a) (ers k L)) = some a := getF_sins_self fun _ hp => (mem_ers.1 hp).2
theorem getF_put_ne {b k : List UInt8} (a : α) (h : b ≠ k) (L : List (List UInt8 × α)) : getF k (sins (b, a) (ers b L)) = getF k L := by rw [getF_sins_ne h, getF_ers_ne h]
end

theorem getF_updF (k : List UInt8) (i : Nat) (g : SF → SF) (L : Files) : getF k (updF i g L) = (getF k L).map fun f => if f.id = i then g f else f := by
  unfold updF
  have e : (fun p : List UInt8 × SF => if p.2.id = i then (p.1, g p.2) else p) = fun p => (p.1, (fun f : SF => if f.id = i then g f else f) p.2) := by
    funext p
    by_cases h : p.2.id = i <;> simp [h]
  rw [e]
  exact getF_map (fun f : SF => if f.id = i then g f else f) k L

/-- two files, two numbers -/
theorem SD.Ok.apart {S : SD} (h : S.Ok) {a b : List UInt8} {f g : SF} (hf : getF a S.files = some f) (hg : getF b S.files = some g) (hne : a ≠ b) : f.id ≠ g.id := fun e => by
  have := pair_one (g := fun p : List UInt8 × SF => p.2.id) h.ids (getF_some hf) (getF_some hg) e
  simp only [Prod.mk.injEq] at this
  exact hne this.1

/-- what of a file is sure to last -/
def Lasts (S : SD) (nm : List UInt8) (s : Nat) : Prop := s = 0 ∨ ∃ f, getF nm S.files = some f ∧ s ≤ f.safe ∧ f.stays = true

theorem lasts_zero (S : SD) (nm : List UInt8) : Lasts S nm 0 := Or.inl rfl

theorem lasts_write {S : SD} (hok : S.Ok) {nm : List UInt8} {s : Nat} (h : Lasts S nm s) (i : Nat) (a : List UInt8) (xs : List Int) : Lasts (S.write i a xs) nm s := by
  rcases h with h | ⟨f, hf, h1, h2⟩
  · exact Or.inl h
  · right
    unfold SD.write
    cases hg : getF a S.files with
    | some g =>
      simp only [getF_updF, hf, Option.map_some]
      by_cases e : a = nm
      · rw [e, hf] at hg
        cases hg
        rw [if_pos rfl]
        exact ⟨_, rfl, h1, h2⟩
      · rw [if_neg (hok.apart hf hg (Ne.symm e))]
        exact ⟨_, rfl, h1, h2⟩
    | none =>
      have hne : a ≠ nm := fun e => by rw [e, hf] at hg; cases hg
      simp only [getF_put_ne _ hne]
      exact ⟨f, hf, h1, h2⟩

theorem lasts_sync {S : SD} (hok : S.Ok) {nm : List UInt8} {s : Nat} (h : Lasts S nm s) {a : List UInt8} (hne : a ≠ nm) : Lasts (S.sync a) nm s := by
  rcases h with h | ⟨f, hf, h1, h2⟩
  · exact Or.inl h
  · right
    unfold SD.sync
    cases hg : getF a S.files with
    | some g =>
      simp only [getF_updF, hf, Option.map_some]
      rw [if_neg (hok.apart hf hg (Ne.symm hne))]
      exact ⟨_, rfl, h1, h2⟩
    | none => exact ⟨f, hf, h1, h2⟩
theorem lasts_synced {S : SD} {a : List UInt8} (h : errOf S a = 0) : Lasts (S.sync a) a ((S.sync a).data a).length := by
  unfold errOf at h
  cases hg : getF a S.files with
  | none =>
    rw [hg] at h
    simp at h
  | some g =>
    have e : getF a (S.sync a).files = some { g with safe := g.data.length, stays := true } := by
      unfold SD.sync
      rw [hg]
      simp only [getF_updF, hg, Option.map_some, if_pos]
    right
    refine ⟨_, e, ?_, rfl⟩
    unfold SD.data
    rw [e]
    exact Nat.le_refl _
theorem sync_err {S : SD} {a : List UInt8} (h : errOf S a ≠ 0) : S.sync a = S ∧ S.remove a = S := by
  unfold errOf at h
  cases hg : getF a S.files with
  | some g =>
    rw [hg] at h
    simp at h
  | none =>
    unfold SD.sync SD.remove
    rw [hg]
    exact ⟨rfl, rfl⟩
theorem lasts_remove {S : SD} {nm : List UInt8} {s : Nat} (h : Lasts S nm s) {a : List UInt8} (hne : a ≠ nm) : Lasts (S.remove a) nm s := by
  rcases h with h | ⟨f, hf, h1, h2⟩
  · exact Or.inl h
  · right
    unfold SD.remove
    cases hg : getF a S.files with
    | some g => exact ⟨f, by simp only [getF_ers_ne hne, hf], h1, h2⟩
    | none => exact ⟨f, hf, h1, h2⟩
theorem lasts_rename {S : SD} {nm : List UInt8} {s : Nat} (h : Lasts S nm s) {a b : List UInt8} (h0 : (S.rename a b).1 = 0) (ha : a ≠ nm) (hb : b ≠ nm) : Lasts (S.rename a b).2 nm s := by
  rcases h with h | ⟨f, hf, h1, h2⟩
  · exact Or.inl h
  · right
    unfold SD.rename at h0
    by_cases hgn : goodName b = true
    · cases hg : getF a S.files with
      | none =>
        rw [if_pos hgn, hg] at h0
        simp at h0
      | some g =>
        rw [rename_eq hgn hg]
        exact ⟨f, by simp only [getF_put_ne _ hb, getF_ers_ne ha, hf], h1, h2⟩
    · rw [if_neg hgn] at h0
      simp at h0
theorem rename_err {S : SD} {a b : List UInt8} (h : (S.rename a b).1 ≠ 0) : (S.rename a b).2 = S := by
  unfold SD.rename at h ⊢
  split
  · cases hg : getF a S.files with
    | none => rfl
    | some g =>
      rename_i hgn
      rw [if_pos hgn, hg] at h
      simp at h
  · rfl

/-- what the law takes for sure after a call -/
def sureS (nm : List UInt8) (S' : SD) (e : Int) (c : CallM) (s : Nat) : Nat :=
  if e = 0 ∧ c.what = 1 ∧ c.nm.data.toList = nm then (S'.data nm).length
  else if (e = 0 ∧ ((c.what = 2 ∧ c.nm.data.toList = nm) ∨ (c.what = 3 ∧ (c.nm.data.toList = nm ∨ c.to.data.toList = nm)))) ∨ c.what = 4 then 0 else s

theorem lasts_act {S : SD} (hok : S.Ok) {nm : List UInt8} {s : Nat} (h : Lasts S nm s) (i : Nat) (c : CallM) : Lasts (S.act i c).2 nm (sureS nm (S.act i c).2 (S.act i c).1 c s) := by
  unfold sureS SD.act
  by_cases h0 : c.what = 0
  · simp only [h0, if_true]
    simp
    split
    · exact lasts_write hok h _ _ _
    · exact h
  · by_cases h1 : c.what = 1
    · simp [h1]
      by_cases hn : c.nm.data.toList = nm
      · by_cases he : errOf S c.nm.data.toList = 0
        · rw [if_pos ⟨he, hn⟩, ← hn]
          exact lasts_synced he
        · rw [if_neg (fun e => he e.1), (sync_err he).1]
          exact h
      · rw [if_neg (fun e => hn e.2)]
        exact lasts_sync hok h hn
    · by_cases h2 : c.what = 2
      · simp [h2]
        by_cases he : errOf S c.nm.data.toList = 0
        · by_cases hn : c.nm.data.toList = nm
          · rw [if_pos ⟨he, hn⟩]
            exact lasts_zero _ _
          · rw [if_neg (fun e => hn e.2)]
            exact lasts_remove h hn
        · rw [if_neg (fun e => he e.1), (sync_err he).2]
          exact h
      · by_cases h3 : c.what = 3
        · simp [h3]
          by_cases he : (S.rename c.nm.data.toList c.to.data.toList).1 = 0
          · by_cases hn : c.nm.data.toList = nm ∨ c.to.data.toList = nm
            · rw [if_pos ⟨he, hn⟩]
              exact lasts_zero _ _
            · rw [if_neg (fun e => hn e.2)]
              exact lasts_rename h he (fun e => hn (Or.inl e)) (fun e => hn (Or.inr e))
          · rw [if_neg (fun e => he e.1), rename_err he]
            exact h
        · by_cases h4 : c.what = 4
          · simp [h4]
            exact lasts_zero _ _
          · simp [h0, h1, h2, h3, h4]
            exact h

/-! the crash -/
theorem getF_cred (k : List UInt8) : ∀ (l : List (Nat × Nat)) (keep : Int) (L : Files) {f : SF}, getF k L = some f → ∃ g, getF k (cred l keep L).2 = some g ∧ g.data = f.data ∧ f.safe ≤ g.safe ∧ (f.stays = true → g.stays = true)
  | [], _, _, f, h => ⟨f, h, rfl, Nat.le_refl _, id⟩
  | a :: l, keep, L, f, h => by
    have h1 : getF k (credS (keep, L) a).2 = some (if f.id = a.1 then credF (min keep.toNat a.2) f else f) := by
      unfold credS
      rw [getF_updF, h]
      rfl
    obtain ⟨g, hg, e1, e2, e3⟩ := getF_cred k l (credS (keep, L) a).1 (credS (keep, L) a).2 h1
    refine ⟨g, hg, ?_, ?_, fun hs => e3 ?_⟩
    · rw [e1]
      split <;> rfl
    · refine Nat.le_trans ?_ e2
      split
      · exact Nat.le_add_right _ _
      · exact Nat.le_refl _
    · split
      · unfold credF
        simp [hs]
      · exact hs
theorem getF_cred_none (k : List UInt8) : ∀ (l : List (Nat × Nat)) (keep : Int) (L : Files), getF k L = none → getF k (cred l keep L).2 = none
  | [], _, _, h => h
  | a :: l, keep, L, h => by
    have h1 : getF k (credS (keep, L) a).2 = none := by
      unfold credS
      rw [getF_updF, h]
      rfl
    exact getF_cred_none k l (credS (keep, L) a).1 (credS (keep, L) a).2 h1
theorem getF_finish (k : List UInt8) {L : Files} (h : L.Pairwise (fun p q => p.1 ≠ q.1)) : getF k (finish L) = (getF k L).bind fun f => if f.stays then some (trunc f) else none := by
  induction L with
  | nil => rfl
  | cons y r ih =>
    obtain ⟨h1, h2⟩ := List.pairwise_cons.1 h
    have ih := ih h2
    unfold finish at ih ⊢
    rw [List.filter_cons, getF_cons]
    by_cases hk : y.1 = k
    · rw [if_pos hk]
      have hr : getF k r = none := getF_free fun p hp e => h1 p hp (hk.trans e.symm)
      rw [hr] at ih
      by_cases hs : y.2.stays = true
      · simp [hs, getF_cons, hk]
      · simp [hs, ih]
    · rw [if_neg hk]
      by_cases hs : y.2.stays = true
      · simp [hs, getF_cons, hk, ih]
      · simp [hs, ih]

/-- what a crash leaves of a file -/
structure Left (S S' : SD) (nm : List UInt8) (s : Nat) : Prop where
  is : (getF nm S'.files).isSome = true → (getF nm S.files).isSome = true
  low : s ≤ (S'.data nm).length
  high : (S'.data nm).length ≤ (S.data nm).length
  same : S'.data nm = (S.data nm).take (S'.data nm).length
  loose : S'.nloose = 0

theorem crash_left {S : SD} (hok : S.Ok) {nm : List UInt8} {s : Nat} (h : Lasts S nm s) (keep : Int) : Left S (S.crash keep) nm s := by
  have hinv := cred_inv hok keep
  have hnames : (cred S.loose keep S.files).2.Pairwise (fun p q => p.1 ≠ q.1) := by
    have h1 : ((cred S.loose keep S.files).2.map keyOf3).Pairwise (fun p q => p.1 ≠ q.1) := by
      rw [hinv.key]
      exact (List.pairwise_map (f := keyOf3) (R := fun p q : List UInt8 × Nat × List Int => p.1 ≠ q.1)).2 hok.names_ne
    exact (List.pairwise_map (f := keyOf3) (R := fun p q : List UInt8 × Nat × List Int => p.1 ≠ q.1)).1 h1
  have hcr : getF nm (S.crash keep).files = (getF nm (cred S.loose keep S.files).2).bind fun f => if f.stays then some (trunc f) else none := getF_finish nm hnames
  cases hf : getF nm S.files with
  | none =>
    rw [getF_cred_none nm S.loose keep S.files hf] at hcr
    have e : (S.crash keep).data nm = [] := by
      unfold SD.data
      rw [hcr]
      rfl
    have hs : s = 0 := by
      rcases h with h | ⟨f, h1, -⟩
      · exact h
      · rw [hf] at h1
        cases h1
    exact ⟨fun h1 => by rw [hcr] at h1; simp at h1, by rw [hs]; exact Nat.zero_le _, by rw [e]; exact Nat.zero_le _, by rw [e]; rfl, rfl⟩
  | some f =>
    obtain ⟨g, hg, e1, e2, e3⟩ := getF_cred nm S.loose keep S.files hf
    rw [hg] at hcr
    have hsafe : g.safe ≤ g.data.length := by
      have := hinv.safe _ (getF_some hg)
      exact Nat.le_trans (Nat.le_add_right _ _) this
    have hd : S.data nm = f.data := by
      unfold SD.data
      rw [hf]
    by_cases hst : g.stays = true
    · have hcr2 : getF nm (S.crash keep).files = some (trunc g) := by rw [hcr]; simp [hst]
      have hd2 : (S.crash keep).data nm = f.data.take g.safe := by
        unfold SD.data
        rw [hcr2]
        show g.data.take g.safe = _
        rw [e1]
      have hl : ((S.crash keep).data nm).length = g.safe := by
        rw [hd2, List.length_take, ← e1]
        omega
      refine ⟨fun _ => by rw [hf]; rfl, ?_, ?_, ?_, rfl⟩
      · rw [hl]
        rcases h with h | ⟨f', h1, h2, -⟩
        · omega
        · rw [hf] at h1
          cases h1
          omega
      · rw [hl, hd, ← e1]
        exact hsafe
      · rw [hl, hd, hd2]
    · have hcr2 : getF nm (S.crash keep).files = none := by rw [hcr]; simp [hst]
      have hd2 : (S.crash keep).data nm = [] := by
        unfold SD.data
        rw [hcr2]
      have hs : s = 0 := by
        rcases h with h | ⟨f', h1, -, h3⟩
        · exact h
        · rw [hf] at h1
          cases h1
          exact absurd (e3 h3) hst
      exact ⟨fun h1 => by rw [hcr2] at h1; simp at h1, by rw [hs]; exact Nat.zero_le _, by rw [hd2]; exact Nat.zero_le _, by rw [hd2]; rfl, rfl⟩
end Go.Proofs.Ytkefciacdmbidaa
