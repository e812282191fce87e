/- What a disk keeps: SD.Ok stands behind each call. -/
import Derived.Test.YtkefciacdmbidaaSs
namespace Go.Proofs.Ytkefciacdmbidaa
open Go.RowKit Go.WideMaps Go.Maps

theorem SD.Ok.one {S : SD} (h : S.Ok) {p q : List UInt8 × SF} (hp : p ∈ S.files) (hq : q ∈ S.files) (e : p.1 = q.1) : p = q := pair_one (g := Prod.fst) h.names_ne hp hq e

theorem pair_ids {L L' : Files} (h : L.map idp = L'.map idp) (hp : L'.Pairwise (fun p q => p.2.id ≠ q.2.id)) : L.Pairwise (fun p q => p.2.id ≠ q.2.id) := by
  have h1 : (L'.map idp).Pairwise (fun a b => a.2 ≠ b.2) := List.pairwise_map.2 hp
  rw [← h] at h1
  exact (List.pairwise_map (f := idp)).1 h1

theorem ids_sins {p : List UInt8 × SF} {L : Files} (h : L.Pairwise (fun p q => p.2.id ≠ q.2.id)) (hn : ∀ q ∈ L, q.2.id ≠ p.2.id) : (sins p L).Pairwise (fun p q => p.2.id ≠ q.2.id) := by
  have h1 : (p :: L).Pairwise (fun p q : List UInt8 × SF => p.2.id ≠ q.2.id) := List.pairwise_cons.2 ⟨fun q hq => (hn q hq).symm, h⟩
  exact ((sins_perm p L).pairwise_iff (R := fun p q : List UInt8 × SF => p.2.id ≠ q.2.id) (fun {a b} e => e.symm)).2 h1

theorem updF_sorted {i : Nat} {g : SF → SF} {L : Files} (h : L.Pairwise (fun p q => Go.bytesBefore p.1 q.1 = true)) : (updF i g L).Pairwise (fun p q => Go.bytesBefore p.1 q.1 = true) := by
  unfold updF
  refine List.pairwise_map.2 (h.imp fun {p q} hpq => ?_)
  split <;> split <;> exact hpq

theorem remove_ok {S : SD} (h : S.Ok) (nm : List UInt8) : (S.remove nm).Ok := by
  unfold SD.remove
  cases hg : getF nm S.files with
  | none => exact h
  | some f =>
    have hf := getF_some hg
    have hne : ∀ p ∈ ers nm S.files, p.2.id ≠ f.id := fun p hp e => by
      obtain ⟨h1, h2⟩ := mem_ers.1 hp
      have := ids_ne h.ids h1 hf e
      rw [this] at h2
      exact h2 rfl
    refine ⟨h.sorted.filter _, h.ids.filter _, fun p hp => h.names p (mem_ers.1 hp).1, fun p hp => ?_, fun l hl => ?_, h.limit, Nat.le_trans (lens_ers_le nm S.files) h.room⟩
    · show p.2.safe + looseOf (keepL f.id S.loose) p.2.id = _
      rw [looseOf_keep, if_neg (hne p hp)]
      exact h.sums p (mem_ers.1 hp).1
    · obtain ⟨h1, h2⟩ := mem_keepL.1 hl
      obtain ⟨q, hq, e⟩ := h.looseIn l h1
      refine ⟨q, mem_ers.2 ⟨hq, fun e2 => ?_⟩, e⟩
      have := h.one hq hf e2
      rw [this] at e
      exact h2 e.symm

theorem sync_ok {S : SD} (h : S.Ok) (nm : List UInt8) : (S.sync nm).Ok := by
  unfold SD.sync
  cases hg : getF nm S.files with
  | none => exact h
  | some f =>
    have hf := getF_some hg
    have hl := lens_updF (f' := { f with safe := f.data.length, stays := true }) h.ids hf
    show SD.Ok { S with files := updF f.id (fun _ => { f with safe := f.data.length, stays := true }) S.files, loose := keepL f.id S.loose }
    refine ⟨?_, pair_ids (L' := S.files) ?_ h.ids, fun p hp => ?_, fun p hp => ?_, fun l hl => ?_, h.limit, ?_⟩
    · exact updF_sorted (i := f.id) (g := fun _ => { f with safe := f.data.length, stays := true }) h.sorted
    · exact updF_idp (i := f.id) (g := fun _ => { f with safe := f.data.length, stays := true }) fun _ _ _ => rfl
    · obtain ⟨q, hq, rfl⟩ := List.mem_map.1 hp
      have := h.names q hq
      split <;> exact this
    · obtain ⟨q, hq, rfl⟩ := List.mem_map.1 hp
      show _ + looseOf (keepL f.id S.loose) _ = _
      rw [looseOf_keep]
      by_cases e : q.2.id = f.id
      · simp [e]
      · simp only [e, if_false]
        exact h.sums q hq
    · obtain ⟨h1, h2⟩ := mem_keepL.1 hl
      obtain ⟨q, hq, e⟩ := h.looseIn l h1
      refine ⟨q, List.mem_map.2 ⟨q, hq, ?_⟩, e⟩
      rw [if_neg (by rw [e]; exact h2)]
    · have := h.room
      simp only [SD.size] at this ⊢
      simp only at hl
      omega

theorem goodName_iff {nm : List UInt8} : goodName nm = true ↔ 1 ≤ nm.length ∧ nm.length ≤ 16 := by simp [goodName]

theorem write_ok {S : SD} (h : S.Ok) {i : Nat} (hi : ∀ p ∈ S.files, p.2.id ≠ i) {nm : List UInt8} {xs : List Int} (hw : S.werr nm xs.length = 0) : (S.write i nm xs).Ok := by
  unfold SD.werr at hw
  cases hgn : goodName nm with
  | false => rw [hgn] at hw; simp at hw
  | true =>
    rw [hgn, if_pos rfl] at hw
    have hroom : ¬ S.limit < S.size + xs.length := fun e => by rw [if_pos e] at hw; cases hw
    have hgn' := goodName_iff.1 hgn
    unfold SD.write
    cases hg : getF nm S.files with
    | some f =>
      have hf := getF_some hg
      have hl := lens_updF (f' := { f with data := f.data ++ xs }) h.ids hf
      show SD.Ok { S with files := updF f.id (fun _ => { f with data := f.data ++ xs }) S.files, loose := S.loose ++ [(f.id, xs.length)] }
      refine ⟨?_, pair_ids (L' := S.files) ?_ h.ids, fun p hp => ?_, fun p hp => ?_, fun l hl => ?_, h.limit, ?_⟩
      · exact updF_sorted (i := f.id) (g := fun _ => { f with data := f.data ++ xs }) h.sorted
      · exact updF_idp (i := f.id) (g := fun _ => { f with data := f.data ++ xs }) fun _ _ _ => rfl
      · obtain ⟨q, hq, rfl⟩ := List.mem_map.1 hp
        have := h.names q hq
        split <;> exact this
      · obtain ⟨q, hq, rfl⟩ := List.mem_map.1 hp
        show _ + looseOf (S.loose ++ [(f.id, xs.length)]) _ = _
        have hs := h.sums q hq
        rw [looseOf_append, looseOf_cons]
        by_cases e : q.2.id = f.id
        · have := ids_ne h.ids hq hf e
          subst this
          simp [looseOf] at hs ⊢
          omega
        · simp only [e, if_false]
          rw [if_neg (fun e2 => e e2.symm)]
          simp [looseOf] at hs ⊢
          omega
      · have hq : ∃ q ∈ S.files, q.2.id = l.1 := by
          rcases List.mem_append.1 hl with h1 | h1
          · exact h.looseIn l h1
          · simp at h1
            rw [h1]
            exact ⟨_, hf, rfl⟩
        obtain ⟨q, hq, e⟩ := hq
        refine ⟨_, List.mem_map.2 ⟨q, hq, rfl⟩, ?_⟩
        by_cases e2 : q.2.id = f.id
        · rw [if_pos e2]; exact e2.symm.trans e
        · rw [if_neg e2]; exact e
      · simp only [SD.size, List.length_append] at hroom hl ⊢
        omega
    | none =>
      have hne := getF_none hg
      have he : ers nm S.files = S.files := ers_none hg
      have hli : ∀ p ∈ S.loose, p.1 ≠ i := fun p hp e => by
        obtain ⟨q, hq, e2⟩ := h.looseIn p hp
        exact hi q hq (e2.trans e)
      rw [he]
      refine ⟨sins_sorted h.sorted hne, ?_, fun p hp => ?_, fun p hp => ?_, fun l hl => ?_, h.limit, ?_⟩
      · exact ids_sins h.ids hi
      · rcases mem_sins.1 hp with e | hp
        · rw [e]; exact hgn'
        · exact h.names p hp
      · show _ + looseOf (S.loose ++ [(i, xs.length)]) _ = _
        rw [looseOf_append, looseOf_cons]
        rcases mem_sins.1 hp with e | hp
        · rw [e]
          rw [looseOf_none hli]
          simp [looseOf]
        · have hs := h.sums p hp
          rw [if_neg (fun e => hi p hp e.symm)]
          simp [looseOf] at hs ⊢
          omega
      · rcases List.mem_append.1 hl with h1 | h1
        · obtain ⟨q, hq, e⟩ := h.looseIn l h1
          exact ⟨q, mem_sins.2 (Or.inr hq), e⟩
        · simp at h1
          rw [h1]
          exact ⟨_, mem_sins.2 (Or.inl rfl), rfl⟩
      · have e := lens_perm (sins_perm (nm, (⟨i, xs, 0, false⟩ : SF)) S.files)
        simp only [SD.size] at hroom ⊢
        rw [e]
        simp [lens] at hroom ⊢
        omega

theorem ers_comm {α : Type} (a b : List UInt8) (L : List (List UInt8 × α)) : ers a (ers b L) = ers b (ers a L) := by
  unfold ers
  rw [List.filter_filter, List.filter_filter]
  congr 1
  funext p
  rw [Bool.and_comm]

theorem rename_eq {S : SD} {a b : List UInt8} {f : SF} (hgn : goodName b = true) (hg : getF a S.files = some f) :
    (S.rename a b).2 = { files := sins (b, { f with stays := true }) (ers b (ers a S.files)), loose := (match getF b (ers a S.files) with | none => S.loose | some g => keepL g.id S.loose), limit := S.limit } := by
  unfold SD.rename
  rw [hgn, if_pos rfl, hg]
  unfold SD.remove
  simp only
  cases hb : getF b (ers a S.files) with
  | none => rfl
  | some g => simp only [ers_ers]

theorem rename_ok {S : SD} (h : S.Ok) (a b : List UInt8) : (S.rename a b).2.Ok := by
  cases hgn : goodName b with
  | false =>
    unfold SD.rename
    rw [hgn]
    exact h
  | true =>
    have hgn' := goodName_iff.1 hgn
    cases hg : getF a S.files with
    | none =>
      unfold SD.rename
      rw [hgn, hg]
      exact h
    | some f =>
      rw [rename_eq hgn hg]
      have hf := getF_some hg
      have hsub : ∀ p ∈ ers b (ers a S.files), p ∈ S.files ∧ p.1 ≠ a ∧ p.1 ≠ b := fun p hp => ⟨(mem_ers.1 (mem_ers.1 hp).1).1, (mem_ers.1 (mem_ers.1 hp).1).2, (mem_ers.1 hp).2⟩
      have hidf : ∀ p ∈ S.files, p.1 ≠ a → p.2.id ≠ f.id := fun p hp hne e => by
        have := ids_ne h.ids hp hf e
        rw [this] at hne
        exact hne rfl
      obtain ⟨l', hl', hlo, hin⟩ : ∃ l', (match getF b (ers a S.files) with | none => S.loose | some g => keepL g.id S.loose) = l' ∧ (∀ p ∈ S.files, p.1 = a ∨ p.1 ≠ b → looseOf l' p.2.id = looseOf S.loose p.2.id) ∧ (∀ l ∈ l', l ∈ S.loose ∧ ∀ q ∈ S.files, q.2.id = l.1 → q.1 = a ∨ q.1 ≠ b) := by
        cases hb : getF b (ers a S.files) with
        | none =>
          refine ⟨_, rfl, fun _ _ _ => rfl, fun l hl => ⟨hl, fun q hq _ => ?_⟩⟩
          by_cases e : q.1 = a
          · exact Or.inl e
          · exact Or.inr (getF_none hb q (mem_ers.2 ⟨hq, e⟩))
        | some g =>
          have hgm := mem_ers.1 (getF_some hb)
          refine ⟨_, rfl, fun p hp hpn => ?_, fun l hl => ⟨(mem_keepL.1 hl).1, fun q hq e => ?_⟩⟩
          · rw [looseOf_keep, if_neg]
            intro e
            have := ids_ne h.ids hp hgm.1 e
            rw [this] at hpn
            rcases hpn with h1 | h1
            · exact hgm.2 h1
            · exact h1 rfl
          · by_cases e2 : q.1 = b
            · have := h.one hq hgm.1 e2
              rw [this] at e
              exact absurd e.symm (mem_keepL.1 hl).2
            · exact Or.inr e2
      rw [hl']
      refine ⟨sins_sorted ((h.sorted.filter _).filter _) (fun q hq => (hsub q hq).2.2), ?_, fun p hp => ?_, fun p hp => ?_, fun l hl => ?_, h.limit, ?_⟩
      · exact ids_sins ((h.ids.filter _).filter _) fun p hp => hidf p (hsub p hp).1 (hsub p hp).2.1
      · rcases mem_sins.1 hp with e | hp
        · rw [e]; exact hgn'
        · exact h.names p (hsub p hp).1
      · show _ + looseOf l' _ = _
        rcases mem_sins.1 hp with e | hp
        · rw [e]
          show f.safe + looseOf l' f.id = f.data.length
          rw [hlo _ hf (Or.inl rfl)]
          exact h.sums _ hf
        · rw [hlo p (hsub p hp).1 (Or.inr (hsub p hp).2.2)]
          exact h.sums p (hsub p hp).1
      · obtain ⟨h1, h2⟩ := hin l hl
        obtain ⟨q, hq, e⟩ := h.looseIn l h1
        by_cases e2 : q.1 = a
        · have := h.one hq hf e2
          refine ⟨(b, { f with stays := true }), mem_sins.2 (Or.inl rfl), ?_⟩
          rw [this] at e
          exact e
        · rcases h2 q hq e with h3 | h3
          · exact absurd h3 e2
          · exact ⟨q, mem_sins.2 (Or.inr (mem_ers.2 ⟨mem_ers.2 ⟨hq, e2⟩, h3⟩)), e⟩
      · have e := lens_perm (sins_perm (b, ({ f with stays := true } : SF)) (ers b (ers a S.files)))
        have e1 := lens_ers h.names_ne hf
        have e2 := lens_ers_le b (ers a S.files)
        have e3 := h.room
        simp only [SD.size] at e3 ⊢
        rw [e]
        simp [lens] at e1 e2 e3 ⊢
        omega

/-! Crash -/
theorem finish_mem {L : Files} {p : List UInt8 × SF} (h : p ∈ finish L) : ∃ q ∈ L, q.2.stays = true ∧ p = (q.1, trunc q.2) := by
  obtain ⟨q, hq, e⟩ := List.mem_map.1 h
  have := List.mem_filter.1 hq
  exact ⟨q, this.1, this.2, e.symm⟩

theorem cred_inv {S : SD} (h : S.Ok) (keep : Int) : CrInv S (cred S.loose keep S.files).2 [] := by
  have : ∀ k, k ≤ S.loose.length → CrInv S (cred (S.loose.take k) keep S.files).2 (S.loose.drop k) := by
    intro k
    induction k with
    | zero => intro _; exact CrInv.start h
    | succ k ih =>
      intro hk
      have h1 := ih (by omega)
      rw [drop_cons (by omega)] at h1
      rw [cred_take _ _ _ _ (by omega)]
      exact h1.step _ (by omega)
  have h1 := this S.loose.length (Nat.le_refl _)
  rw [List.take_length, List.drop_length] at h1
  exact h1

theorem lens_finish : ∀ L : Files, lens (finish L) ≤ lens L
  | [] => Nat.le_refl _
  | y :: r => by
    have := lens_finish r
    unfold finish at *
    rw [List.filter_cons]
    split
    · simp [lens, trunc] at this ⊢; omega
    · simp [lens] at this ⊢; omega
theorem lens_key {L L' : Files} (h : L.map keyOf3 = L'.map keyOf3) : lens L = lens L' := by
  have := congrArg (fun l : List (List UInt8 × Nat × List Int) => (l.map fun x => x.2.2.length).sum) h
  simp only [List.map_map] at this
  exact this

theorem crash_ok {S : SD} (h : S.Ok) (keep : Int) : (S.crash keep).Ok := by
  have hinv := cred_inv h keep
  have hsafe : ∀ q ∈ (cred S.loose keep S.files).2, q.2.safe ≤ q.2.data.length := fun q hq => Nat.le_trans (Nat.le_add_right _ _) (hinv.safe q hq)
  unfold SD.crash
  obtain ⟨L, hL⟩ : ∃ L, (cred S.loose keep S.files).2 = L := ⟨_, rfl⟩
  rw [hL] at hinv hsafe ⊢
  refine ⟨?_, ?_, fun p hp => ?_, fun p hp => ?_, fun l hl => by simp at hl, h.limit, ?_⟩
  · exact List.pairwise_map.2 ((hinv.sorted h).filter _)
  · exact List.pairwise_map.2 ((hinv.ids h).filter _)
  · obtain ⟨q, hq, _, rfl⟩ := finish_mem hp
    obtain ⟨r, hr, e, _⟩ := hinv.mem hq
    rw [← e]
    exact h.names r hr
  · obtain ⟨q, hq, _, rfl⟩ := finish_mem hp
    have := hsafe q hq
    simp [looseOf, trunc]
    omega
  · have h1 := lens_finish L
    have h2 := lens_key hinv.key
    have h3 := h.room
    simp only [SD.size] at h3 ⊢
    omega
end Go.Proofs.Ytkefciacdmbidaa
