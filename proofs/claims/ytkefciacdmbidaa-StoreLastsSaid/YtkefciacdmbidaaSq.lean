/- Crash, in plain words: what of the writes that don't last is kept. -/
import Derived.Test.YtkefciacdmbidaaSp
namespace Go.Proofs.Ytkefciacdmbidaa
open Go.RowKit Go.WideMaps Go.Maps

abbrev Files := List (List UInt8 × SF)
def credF (x : Nat) (f : SF) : SF := { f with safe := f.safe + x, stays := f.stays || decide (0 < x) }
def credS (s : Int × Files) (p : Nat × Nat) : Int × Files := (s.1 - (min s.1.toNat p.2 : Nat), updF p.1 (credF (min s.1.toNat p.2)) s.2)
def cred (l : List (Nat × Nat)) (keep : Int) (L : Files) : Int × Files := l.foldl credS (keep, L)
def trunc (f : SF) : SF := { f with data := f.data.take f.safe }
def finish (L : Files) : Files := (L.filter fun p => p.2.stays).map fun p => (p.1, trunc p.2)
def SD.crash (S : SD) (keep : Int) : SD := { S with files := finish (cred S.loose keep S.files).2, loose := [] }

def keyOf3 (p : List UInt8 × SF) : List UInt8 × Nat × List Int := (p.1, p.2.id, p.2.data)
structure CrInv (S : SD) (L : Files) (rest : List (Nat × Nat)) : Prop where
  key : L.map keyOf3 = S.files.map keyOf3
  safe : ∀ p ∈ L, p.2.safe + looseOf rest p.2.id ≤ p.2.data.length

theorem cred_take (l : List (Nat × Nat)) (keep : Int) (L : Files) (k : Nat) (h : k < l.length) : cred (l.take (k + 1)) keep L = credS (cred (l.take k) keep L) l[k] := by
  unfold cred
  rw [List.take_succ_eq_append_getElem h, List.foldl_append]
  rfl

theorem updF_key {i : Nat} {g : SF → SF} {L : Files} (h : ∀ f : SF, (g f).id = f.id ∧ (g f).data = f.data) : (updF i g L).map keyOf3 = L.map keyOf3 := by
  unfold updF
  rw [List.map_map]
  apply List.map_congr_left
  intro p _
  by_cases e : p.2.id = i
  · simp [keyOf3, e, h p.2]
  · simp [keyOf3, e]

theorem CrInv.ids {S : SD} {L : Files} {rest : List (Nat × Nat)} (h : CrInv S L rest) (hok : S.Ok) : L.Pairwise (fun p q => p.2.id ≠ q.2.id) := by
  have h1 : (L.map keyOf3).Pairwise (fun a b => a.2.1 ≠ b.2.1) := by rw [h.key]; exact List.pairwise_map.2 hok.ids
  exact (List.pairwise_map (f := keyOf3)).1 h1
theorem CrInv.sorted {S : SD} {L : Files} {rest : List (Nat × Nat)} (h : CrInv S L rest) (hok : S.Ok) : L.Pairwise (fun p q => Go.bytesBefore p.1 q.1 = true) := by
  have h1 : (L.map keyOf3).Pairwise (fun a b => Go.bytesBefore a.1 b.1 = true) := by rw [h.key]; exact List.pairwise_map.2 hok.sorted
  exact (List.pairwise_map (f := keyOf3)).1 h1
theorem CrInv.idp {S : SD} {L : Files} {rest : List (Nat × Nat)} (h : CrInv S L rest) : L.map idp = S.ids := by
  have := congrArg (List.map fun x : List UInt8 × Nat × List Int => (x.1, x.2.1)) h.key
  rw [List.map_map, List.map_map] at this
  exact this
theorem CrInv.mem {S : SD} {L : Files} {rest : List (Nat × Nat)} (h : CrInv S L rest) {p : List UInt8 × SF} (hp : p ∈ L) : ∃ q ∈ S.files, q.1 = p.1 ∧ q.2.id = p.2.id ∧ q.2.data = p.2.data := by
  have h1 : keyOf3 p ∈ S.files.map keyOf3 := by rw [← h.key]; exact List.mem_map.2 ⟨p, hp, rfl⟩
  obtain ⟨q, hq, e⟩ := List.mem_map.1 h1
  simp only [keyOf3, Prod.mk.injEq] at e
  exact ⟨q, hq, e.1, e.2.1, e.2.2⟩
theorem CrInv.has {S : SD} {L : Files} {rest : List (Nat × Nat)} (h : CrInv S L rest) {q : List UInt8 × SF} (hq : q ∈ S.files) : ∃ p ∈ L, q.1 = p.1 ∧ q.2.id = p.2.id ∧ q.2.data = p.2.data := by
  have h1 : keyOf3 q ∈ L.map keyOf3 := by rw [h.key]; exact List.mem_map.2 ⟨q, hq, rfl⟩
  obtain ⟨p, hp, e⟩ := List.mem_map.1 h1
  simp only [keyOf3, Prod.mk.injEq] at e
  exact ⟨p, hp, e.1.symm, e.2.1.symm, e.2.2.symm⟩

theorem looseOf_cons (p : Nat × Nat) (r : List (Nat × Nat)) (i : Nat) : looseOf (p :: r) i = (if p.1 = i then p.2 else 0) + looseOf r i := by
  unfold looseOf
  rw [List.filter_cons]
  by_cases e : p.1 = i <;> simp [e]

theorem CrInv.step {S : SD} {L : Files} {p : Nat × Nat} {rest : List (Nat × Nat)} (h : CrInv S L (p :: rest)) (x : Nat) (hx : x ≤ p.2) : CrInv S (updF p.1 (credF x) L) rest where
  key := (updF_key (g := credF x) fun f => ⟨rfl, rfl⟩).trans h.key
  safe q hq := by
    obtain ⟨r, hr, rfl⟩ := List.mem_map.1 hq
    have := h.safe r hr
    rw [looseOf_cons] at this
    by_cases e : r.2.id = p.1
    · rw [if_pos e.symm] at this
      rw [if_pos e]
      show r.2.safe + x + looseOf rest r.2.id ≤ r.2.data.length
      omega
    · rw [if_neg (fun h => e h.symm)] at this
      rw [if_neg e]
      omega

theorem CrInv.start {S : SD} (hok : S.Ok) : CrInv S S.files S.loose := ⟨rfl, fun p hp => Nat.le_of_eq (hok.sums p hp)⟩

theorem updF_one {k : List UInt8} {f : SF} {g : SF → SF} {L : Files} (hids : L.Pairwise (fun p q => p.2.id ≠ q.2.id)) (hf : (k, f) ∈ L) : updF f.id (fun _ => g f) L = updF f.id g L := by
  unfold updF
  apply List.map_congr_left
  intro p hp
  by_cases e : p.2.id = f.id
  · have := ids_ne hids hp hf e
    rw [this]
  · rw [if_neg e, if_neg e]

/-! the second loop: R: the names that are still to come -/
def inR (R : List (List UInt8 × Nat)) (k : List UInt8) : Bool := R.any fun p => p.1 == k
def stateOf (L : Files) (R : List (List UInt8 × Nat)) : Files := (L.filter fun p => inR R p.1 || p.2.stays).map fun p => if inR R p.1 then p else (p.1, trunc p.2)

theorem stateOf_nil (L : Files) : stateOf L [] = finish L := by
  unfold stateOf finish
  rfl
theorem stateOf_all (L : Files) : stateOf L (L.map idp) = L := by
  have h : ∀ p ∈ L, inR (L.map idp) p.1 = true := fun p hp => by
    unfold inR
    rw [List.any_eq_true]
    exact ⟨idp p, List.mem_map.2 ⟨p, hp, rfl⟩, by simp [idp]⟩
  unfold stateOf
  rw [List.filter_eq_self.2 (fun p hp => by rw [h p hp]; rfl), List.map_congr_left (g := id) (fun p hp => by rw [h p hp]; rfl), List.map_id]
theorem inR_ers (R : List (List UInt8 × Nat)) (s k : List UInt8) : inR (ers s R) k = (inR R k && !(k == s)) := by
  unfold inR ers
  rw [List.any_filter]
  induction R with
  | nil => rfl
  | cons y r ih =>
    simp only [List.any_cons, ih]
    by_cases e : y.1 = k
    · subst e
      cases (y.1 == s) <;> simp
    · have : (y.1 == k) = false := by simpa using e
      simp [this]

theorem inR_mem {R : List (List UInt8 × Nat)} {s : List UInt8} {i : Nat} (h : (s, i) ∈ R) : inR R s = true := by
  unfold inR
  rw [List.any_eq_true]
  exact ⟨_, h, by simp⟩

theorem state_mem {L : Files} {R : List (List UInt8 × Nat)} {s : List UInt8} {f : SF} (hf : (s, f) ∈ L) (hR : inR R s = true) : (s, f) ∈ stateOf L R := by
  unfold stateOf
  refine List.mem_map.2 ⟨(s, f), List.mem_filter.2 ⟨hf, by simp [hR]⟩, ?_⟩
  simp [hR]

theorem pair_one {α β : Type} {g : α → β} {L : List α} (h : L.Pairwise (fun p q => g p ≠ g q)) {p q : α} (hp : p ∈ L) (hq : q ∈ L) (e : g p = g q) : p = q := by
  induction L with
  | nil => simp at hp
  | cons x r ih =>
    obtain ⟨h1, h2⟩ := List.pairwise_cons.1 h
    rcases List.mem_cons.1 hp with e1 | hp
    · rcases List.mem_cons.1 hq with e2 | hq
      · rw [e1, e2]
      · rw [e1] at e
        exact absurd e (h1 q hq)
    · rcases List.mem_cons.1 hq with e2 | hq
      · rw [e2] at e
        exact absurd e.symm (h1 p hp)
      · exact ih h2 hp hq

theorem state_keep {L : Files} {R : List (List UInt8 × Nat)} {s : List UInt8} {f : SF} (hids : L.Pairwise (fun p q => p.2.id ≠ q.2.id)) (hn : L.Pairwise (fun p q => p.1 ≠ q.1)) (hf : (s, f) ∈ L) (hR : inR R s = true) (hst : f.stays = true) :
    updF f.id (fun _ => trunc f) (stateOf L R) = stateOf L (ers s R) := by
  have hone : ∀ p ∈ L, p.1 = s → p = (s, f) := fun p hp e => by
    have := pair_one hn hp hf e
    exact this
  unfold updF stateOf
  rw [List.map_map, List.filter_congr (q := fun p => inR (ers s R) p.1 || p.2.stays) (fun p hp => ?_)]
  · apply List.map_congr_left
    intro p hp
    have hpL := (List.mem_filter.1 hp).1
    by_cases e : p.1 = s
    · have hpe := hone p hpL e
      subst hpe
      simp [inR_ers, hR]
    · have hne : p.2.id ≠ f.id := fun h => e (by rw [ids_ne hids hpL hf h])
      have h2 : (inR (ers s R) p.1) = inR R p.1 := by rw [inR_ers]; simp [e]
      simp only [Function.comp, h2]
      cases inR R p.1
      · simp [trunc, hne]
      · simp [hne]
  · rw [inR_ers]
    by_cases e : p.1 = s
    · have hpe := hone p hp e
      subst hpe
      rw [hst, Bool.or_true, Bool.or_true]
    · have : (p.1 == s) = false := by simpa using e
      rw [this, Bool.not_false, Bool.and_true]

theorem state_drop {L : Files} {R : List (List UInt8 × Nat)} {s : List UInt8} {f : SF} (hids : L.Pairwise (fun p q => p.2.id ≠ q.2.id)) (hn : L.Pairwise (fun p q => p.1 ≠ q.1)) (hf : (s, f) ∈ L) (hst : f.stays = false) :
    ers s (updF f.id (fun _ => trunc f) (stateOf L R)) = stateOf L (ers s R) := by
  have hone : ∀ p ∈ L, p.1 = s → p = (s, f) := fun p hp e => by
    have := pair_one hn hp hf e
    exact this
  unfold updF stateOf ers
  rw [List.map_map, List.filter_map, List.filter_filter, List.filter_congr (q := fun p => inR (List.filter (fun p => !(p.1 == s)) R) p.1 || p.2.stays) (fun p hp => ?_)]
  · apply List.map_congr_left
    intro p hp
    have hpL := (List.mem_filter.1 hp).1
    have hk : inR (List.filter (fun p => !(p.1 == s)) R) p.1 = (inR R p.1 && !(p.1 == s)) := inR_ers R s p.1
    by_cases e : p.1 = s
    · have hpe := hone p hpL e
      subst hpe
      have h3 := (List.mem_filter.1 hp).2
      rw [hk] at h3
      simp [hst] at h3
    · have hne : p.2.id ≠ f.id := fun h => e (by rw [ids_ne hids hpL hf h])
      have h2 : inR (List.filter (fun p => !(p.1 == s)) R) p.1 = inR R p.1 := by rw [hk]; simp [e]
      simp only [Function.comp, h2]
      cases inR R p.1
      · simp [trunc, hne]
      · simp [hne]
  · have hk : inR (List.filter (fun p => !(p.1 == s)) R) p.1 = (inR R p.1 && !(p.1 == s)) := inR_ers R s p.1
    rw [hk]
    by_cases e : p.1 = s
    · have hpe := hone p hp e
      subst hpe
      cases h : inR R s <;> simp [h, hst, trunc]
    · have hne : p.2.id ≠ f.id := fun h => e (by rw [ids_ne hids hp hf h])
      cases h : inR R p.1 <;> simp [h, e, trunc, hne]
end Go.Proofs.Ytkefciacdmbidaa
