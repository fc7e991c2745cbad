/- Lists of owned pieces of memory, apart from each other. Conditions: none. -/
import Derived.Test.YtalknmdbamlabaaGreatSteps
namespace Go.Proofs.YtalknmdbamlabaaGreat.Q
open Go
/-- block b is as it was. -/
abbrev Sm (h h' : Hp) (b : Nat) : Prop := h'[b]? = h[b]?
theorem Blk.sm {h h' : Hp} {b : Nat} {cs : List Value} (H : Blk h b cs) (hc : Sm h h' b) : Blk h' b cs := by
  obtain ⟨e, fz, h1, h2⟩ := H; exact ⟨e, fz, hc.trans h1, h2⟩
theorem Mp.sm {h h' : Hp} {b : Nat} {es : List MapEntry} {c : Nat} (H : Mp h b es c) (hc : Sm h h' b) : Mp h' b es c := by
  unfold Mp at *; exact hc.trans H
/-- an owned piece of memory. -/
inductive SL : Type 1 where
  /-- a block. -/
  | bk (b : Nat) (cs : List Value)
  /-- a block that nothing of which is frozen. -/
  | bkn (b : Nat) (cs : List Value)
  /-- a map. -/
  | mp (b : Nat) (es : List MapEntry) (c : Nat)
  /-- the user's data of h0 is as it was. -/
  | old (h0 : Hp)
  /-- the machine's own objects of h0 are as they were. -/
  | fz (h0 : Hp)
  /-- the iterators of h0 from block n on are as they were. -/
  | sf (n : Nat) (h0 : Hp)
  /-- there are so many blocks. -/
  | sz (n : Nat)
  /-- an iterator over a map. -/
  | it (r m since : Nat) (seen : Array Nat) (last : Nat)
  | exS {α : Type} (f : α → SL)
  | puS (p : Prop) (r : SL)
  | emS
  | stS (r s : SL)
/-- what it says of a heap, with just these blocks. -/
def SL.P : SL → Hp → (Nat → Prop) → Prop
  | .bk b cs, h, F => (∀ x, F x ↔ x = b) ∧ Blk h b cs
  | .bkn b cs, h, F => (∀ x, F x ↔ x = b) ∧ ∃ e, h[b]? = some (.cells cs.toArray e (0, 0))
  | .mp b es c, h, F => (∀ x, F x ↔ x = b) ∧ Mp h b es c
  | .old h0, h, F => (∀ x, F x ↔ ∃ o, h0[x]? = some o ∧ ctl o = false) ∧ h0.size ≤ h.size ∧ ∀ b, F b → h[b]? = h0[b]?
  | .fz h0, h, F => (∀ x, F x ↔ ∃ o, h0[x]? = some o ∧ ctl o = true) ∧ h0.size ≤ h.size ∧ ∀ b, F b → h[b]? = h0[b]?
  | .sf n h0, h, F => (∀ x, F x ↔ n ≤ x ∧ ∃ o, h0[x]? = some o ∧ soft o = true) ∧ h0.size ≤ h.size ∧ ∀ b, F b → h[b]? = h0[b]?
  | .sz n, h, F => (∀ x, ¬ F x) ∧ n ≤ h.size
  | .it r m since seen last, h, F => (∀ x, F x ↔ x = r) ∧ h[r]? = some (.mapIter (some m) since seen last)
  | .exS f, h, F => ∃ a, (f a).P h F
  | .puS p r, h, F => p ∧ r.P h F
  | .emS, _, F => ∀ x, ¬ F x
  | .stS r s, h, F => ∃ F1 F2, (∀ x, F x ↔ F1 x ∨ F2 x) ∧ (∀ x, F1 x → F2 x → False) ∧ r.P h F1 ∧ s.P h F2
theorem SL.loc (r : SL) : ∀ h h' F, r.P h F → h.size ≤ h'.size → (∀ b, F b → Sm h h' b) → r.P h' F := by
  induction r with
  | bk b cs => exact fun h h' F H _ hs => ⟨H.1, H.2.sm (hs b ((H.1 b).2 rfl))⟩
  | bkn b cs => exact fun h h' F H _ hs => ⟨H.1, by obtain ⟨e, he⟩ := H.2; exact ⟨e, (hs b ((H.1 b).2 rfl)).trans he⟩⟩
  | mp b es c => exact fun h h' F H _ hs => ⟨H.1, H.2.sm (hs b ((H.1 b).2 rfl))⟩
  | old h0 => exact fun h h' F H hz hs => ⟨H.1, Nat.le_trans H.2.1 hz, fun b hb => (hs b hb).trans (H.2.2 b hb)⟩
  | fz h0 => exact fun h h' F H hz hs => ⟨H.1, Nat.le_trans H.2.1 hz, fun b hb => (hs b hb).trans (H.2.2 b hb)⟩
  | sf n h0 => exact fun h h' F H hz hs => ⟨H.1, Nat.le_trans H.2.1 hz, fun b hb => (hs b hb).trans (H.2.2 b hb)⟩
  | sz n => exact fun h h' F H hz _ => ⟨H.1, Nat.le_trans H.2 hz⟩
  | it r m since seen last => exact fun h h' F H _ hs => ⟨H.1, (hs r ((H.1 r).2 rfl)).trans H.2⟩
  | exS f ih => exact fun h h' F H hz hs => by obtain ⟨a, ha⟩ := H; exact ⟨a, ih a h h' F ha hz hs⟩
  | puS p r ih => exact fun h h' F H hz hs => ⟨H.1, ih h h' F H.2 hz hs⟩
  | emS => exact fun _ _ _ H _ _ => H
  | stS r s ih1 ih2 =>
    intro h h' F H hz hs
    obtain ⟨F1, F2, e, d, H1, H2⟩ := H
    exact ⟨F1, F2, e, d, ih1 h h' F1 H1 hz fun b hb => hs b ((e b).2 (.inl hb)), ih2 h h' F2 H2 hz fun b hb => hs b ((e b).2 (.inr hb))⟩
theorem SL.lt (r : SL) : ∀ h F, r.P h F → ∀ b, F b → b < h.size := by
  induction r with
  | bk b cs => exact fun h F H b hb => by rw [(H.1 b).1 hb]; exact H.2.lt
  | bkn b cs => exact fun h F H b hb => by obtain ⟨e, he⟩ := H.2; rw [(H.1 b).1 hb]; exact lt_of_get he
  | mp b es c => exact fun h F H b hb => by rw [(H.1 b).1 hb]; exact H.2.lt
  | old h0 => exact fun h F H b hb => by obtain ⟨o, ho, _⟩ := (H.1 b).1 hb; exact Nat.lt_of_lt_of_le (lt_of_get ho) H.2.1
  | fz h0 => exact fun h F H b hb => by obtain ⟨o, ho, _⟩ := (H.1 b).1 hb; exact Nat.lt_of_lt_of_le (lt_of_get ho) H.2.1
  | sf n h0 => exact fun h F H b hb => by obtain ⟨_, o, ho, _⟩ := (H.1 b).1 hb; exact Nat.lt_of_lt_of_le (lt_of_get ho) H.2.1
  | sz n => exact fun h F H b hb => (H.1 b hb).elim
  | it r m since seen last => exact fun h F H b hb => by rw [(H.1 b).1 hb]; exact lt_of_get H.2
  | exS f ih => exact fun h F H b hb => by obtain ⟨a, ha⟩ := H; exact ih a h F ha b hb
  | puS p r ih => exact fun h F H => ih h F H.2
  | emS => exact fun _ _ H b hb => (H b hb).elim
  | stS r s ih1 ih2 =>
    intro h F H b hb
    obtain ⟨F1, F2, e, d, H1, H2⟩ := H
    rcases (e b).1 hb with hb | hb
    · exact ih1 h F1 H1 b hb
    · exact ih2 h F2 H2 b hb
/-- its iterators, and the machine's objects that it holds, lie below n. -/
def SL.lo (n : Nat) : SL → Prop
  | .it r .. => r < n
  | .fz h0 => h0.size ≤ n
  | .sf .. => False
  | .exS f => ∀ a, (f a).lo n
  | .puS _ r => r.lo n
  | .stS r s => r.lo n ∧ s.lo n
  | _ => True
/-- the machine's objects for loops that it holds lie below n. -/
def SL.ll (n : Nat) : SL → Prop
  | .fz h0 => h0.size ≤ n
  | .exS f => ∀ a, (f a).ll n
  | .puS _ r => r.ll n
  | .stS r s => r.ll n ∧ s.ll n
  | _ => True
theorem SL.lo_ll {n : Nat} (r : SL) : r.lo n → r.ll n := by
  induction r with
  | exS f ih => exact fun h a => ih a (h a)
  | puS p r ih => exact ih
  | stS r s ih1 ih2 => exact fun h => ⟨ih1 h.1, ih2 h.2⟩
  | fz h0 => exact id
  | _ => exact fun _ => trivial
theorem SL.lo_mono {n m : Nat} (hm : n ≤ m) (r : SL) : r.lo n → r.lo m := by
  induction r with
  | exS f ih => exact fun h a => ih a (h a)
  | puS p r ih => exact ih
  | stS r s ih1 ih2 => exact fun h => ⟨ih1 h.1, ih2 h.2⟩
  | fz h0 => exact fun h => Nat.le_trans h hm
  | it r m s a l => exact fun h => Nat.lt_of_lt_of_le h hm
  | sf n h0 => exact id
  | _ => exact fun _ => trivial
theorem ctl_of_soft {o : Obj} (h : ctl o = false) : soft o = false := by cases o <;> first | rfl | simp [ctl] at h
theorem soft_ctl {o : Obj} (h : soft o = true) : ctl o = true := by cases o <;> first | rfl | simp [soft] at h
theorem SL.locC {n : Nat} (r : SL) : r.lo n → ∀ h h' F, r.P h F → h.size ≤ h'.size → (∀ b, F b → h'[b]? = h[b]? ∨ (n ≤ b ∧ ∃ o o', h[b]? = some o ∧ h'[b]? = some o' ∧ ctl o = true ∧ ctl o' = true)) → r.P h' F := by
  induction r with
  | bk b cs =>
    refine fun _ h h' F H _ hs => ⟨H.1, ?_⟩
    obtain ⟨e, fz, h1, h2⟩ := H.2
    rcases hs b ((H.1 b).2 rfl) with e1 | ⟨_, o, o', e1, _, e3, _⟩
    · exact ⟨e, fz, e1.trans h1, h2⟩
    · rw [h1] at e1; cases e1; simp [ctl] at e3
  | bkn b cs =>
    refine fun _ h h' F H _ hs => ⟨H.1, ?_⟩
    obtain ⟨e, he⟩ := H.2
    rcases hs b ((H.1 b).2 rfl) with e1 | ⟨_, o, o', e1, _, e3, _⟩
    · exact ⟨e, e1.trans he⟩
    · rw [he] at e1; cases e1; simp [ctl] at e3
  | mp b es c =>
    refine fun _ h h' F H _ hs => ⟨H.1, ?_⟩
    have h1 := H.2
    unfold Mp at *
    rcases hs b ((H.1 b).2 rfl) with e1 | ⟨_, o, o', e1, _, e3, _⟩
    · exact e1.trans h1
    · rw [h1] at e1; cases e1; simp [ctl] at e3
  | old h0 =>
    refine fun _ h h' F H hz hs => ⟨H.1, Nat.le_trans H.2.1 hz, fun b hb => ?_⟩
    obtain ⟨o, ho, hc⟩ := (H.1 b).1 hb
    rcases hs b hb with e1 | ⟨_, p, p', e1, _, e3, _⟩
    · exact e1.trans (H.2.2 b hb)
    · rw [H.2.2 b hb, ho] at e1; cases e1; rw [e3] at hc; cases hc
  | fz h0 =>
    refine fun hn h h' F H hz hs => ⟨H.1, Nat.le_trans H.2.1 hz, fun b hb => ?_⟩
    obtain ⟨o, ho, hc⟩ := (H.1 b).1 hb
    rcases hs b hb with e1 | ⟨hb2, _⟩
    · exact e1.trans (H.2.2 b hb)
    · exact absurd (lt_of_get ho) (by have hn : h0.size ≤ n := hn; omega)
  | sf n h0 => exact fun hn => hn.elim
  | sz n => exact fun _ h h' F H hz _ => ⟨H.1, Nat.le_trans H.2 hz⟩
  | it r m since seen last =>
    refine fun hn h h' F H hz hs => ⟨H.1, ?_⟩
    rcases hs r ((H.1 r).2 rfl) with e1 | ⟨hb2, _⟩
    · exact e1.trans H.2
    · exact absurd hb2 (by have hn : r < n := hn; omega)
  | exS f ih => exact fun hn h h' F H hz hs => by obtain ⟨a, ha⟩ := H; exact ⟨a, ih a (hn a) h h' F ha hz hs⟩
  | puS p r ih => exact fun hn h h' F H hz hs => ⟨H.1, ih hn h h' F H.2 hz hs⟩
  | emS => exact fun _ _ _ _ H _ _ => H
  | stS r s ih1 ih2 =>
    intro hn h h' F H hz hs
    obtain ⟨F1, F2, e, d, H1, H2⟩ := H
    exact ⟨F1, F2, e, d, ih1 hn.1 h h' F1 H1 hz fun b hb => hs b ((e b).2 (.inl hb)), ih2 hn.2 h h' F2 H2 hz fun b hb => hs b ((e b).2 (.inr hb))⟩
theorem SL.locL {n : Nat} (r : SL) : r.ll n → ∀ h h' F, r.P h F → h.size ≤ h'.size → (∀ b, F b → h'[b]? = h[b]? ∨ (n ≤ b ∧ ∃ o o', h[b]? = some o ∧ h'[b]? = some o' ∧ lctl o = true ∧ lctl o' = true)) → r.P h' F := by
  induction r with
  | bk b cs => exact fun _ h h' F H hz hs => SL.locC (n := n) (bk b cs) trivial h h' F H hz fun b hb => (hs b hb).imp id fun ⟨hn, o, o', e1, e2, e3, e4⟩ => ⟨hn, o, o', e1, e2, lctl_ctl e3, lctl_ctl e4⟩
  | bkn b cs => exact fun _ h h' F H hz hs => SL.locC (n := n) (bkn b cs) trivial h h' F H hz fun b hb => (hs b hb).imp id fun ⟨hn, o, o', e1, e2, e3, e4⟩ => ⟨hn, o, o', e1, e2, lctl_ctl e3, lctl_ctl e4⟩
  | mp b es c => exact fun _ h h' F H hz hs => SL.locC (n := n) (mp b es c) trivial h h' F H hz fun b hb => (hs b hb).imp id fun ⟨hn, o, o', e1, e2, e3, e4⟩ => ⟨hn, o, o', e1, e2, lctl_ctl e3, lctl_ctl e4⟩
  | old h0 => exact fun _ h h' F H hz hs => SL.locC (n := n) (old h0) trivial h h' F H hz fun b hb => (hs b hb).imp id fun ⟨hn, o, o', e1, e2, e3, e4⟩ => ⟨hn, o, o', e1, e2, lctl_ctl e3, lctl_ctl e4⟩
  | fz h0 => exact fun hn h h' F H hz hs => SL.locC (n := n) (fz h0) hn h h' F H hz fun b hb => (hs b hb).imp id fun ⟨hn, o, o', e1, e2, e3, e4⟩ => ⟨hn, o, o', e1, e2, lctl_ctl e3, lctl_ctl e4⟩
  | sf n h0 =>
    refine fun _ h h' F H hz hs => ⟨H.1, Nat.le_trans H.2.1 hz, fun b hb => ?_⟩
    obtain ⟨_, o, ho, hc⟩ := (H.1 b).1 hb
    rcases hs b hb with e1 | ⟨_, p, p', e1, _, e3, _⟩
    · exact e1.trans (H.2.2 b hb)
    · rw [H.2.2 b hb, ho] at e1; cases e1; rw [lctl_soft e3] at hc; cases hc
  | sz n => exact fun _ h h' F H hz _ => ⟨H.1, Nat.le_trans H.2 hz⟩
  | it r m since seen last =>
    refine fun _ h h' F H hz hs => ⟨H.1, ?_⟩
    rcases hs r ((H.1 r).2 rfl) with e1 | ⟨_, o, o', e1, _, e3, _⟩
    · exact e1.trans H.2
    · rw [H.2] at e1; cases e1; simp [lctl] at e3
  | exS f ih => exact fun hn h h' F H hz hs => by obtain ⟨a, ha⟩ := H; exact ⟨a, ih a (hn a) h h' F ha hz hs⟩
  | puS p r ih => exact fun hn h h' F H hz hs => ⟨H.1, ih hn h h' F H.2 hz hs⟩
  | emS => exact fun _ _ _ _ H _ _ => H
  | stS r s ih1 ih2 =>
    intro hn h h' F H hz hs
    obtain ⟨F1, F2, e, d, H1, H2⟩ := H
    exact ⟨F1, F2, e, d, ih1 hn.1 h h' F1 H1 hz fun b hb => hs b ((e b).2 (.inl hb)), ih2 hn.2 h h' F2 H2 hz fun b hb => hs b ((e b).2 (.inr hb))⟩
/-- such a piece owns no iterator from n on. -/
theorem SL.hard {n : Nat} (r : SL) : r.lo n → ∀ h F, r.P h F → ∀ b, F b → ∀ o, h[b]? = some o → soft o = true → b < n := by
  induction r with
  | bk b cs => exact fun _ h F H x hx o ho hs => by obtain ⟨e, fz, h1, _⟩ := H.2; rw [(H.1 x).1 hx, h1] at ho; cases ho; simp [soft] at hs
  | bkn b cs => exact fun _ h F H x hx o ho hs => by obtain ⟨e, h1⟩ := H.2; rw [(H.1 x).1 hx, h1] at ho; cases ho; simp [soft] at hs
  | mp b es c => exact fun _ h F H x hx o ho hs => by have h1 := H.2; unfold Mp at h1; rw [(H.1 x).1 hx, h1] at ho; cases ho; simp [soft] at hs
  | old h0 => exact fun _ h F H x hx o ho hs => by obtain ⟨p, hp, hc⟩ := (H.1 x).1 hx; rw [H.2.2 x hx, hp] at ho; cases ho; rw [ctl_of_soft hc] at hs; cases hs
  | fz h0 => exact fun hn h F H x hx o ho hs => by obtain ⟨p, hp, hc⟩ := (H.1 x).1 hx; exact Nat.lt_of_lt_of_le (lt_of_get hp) hn
  | sf n h0 => exact fun hn => hn.elim
  | sz n => exact fun _ h F H x hx => (H.1 x hx).elim
  | it r m since seen last => exact fun hn h F H x hx o ho hs => by rw [(H.1 x).1 hx]; exact hn
  | exS f ih => exact fun hn h F H => by obtain ⟨a, ha⟩ := H; exact ih a (hn a) h F ha
  | puS p r ih => exact fun hn h F H => ih hn h F H.2
  | emS => exact fun _ _ _ H x hx => (H x hx).elim
  | stS r s ih1 ih2 =>
    intro hn h F H x hx
    obtain ⟨F1, F2, e, d, H1, H2⟩ := H
    rcases (e x).1 hx with hx | hx
    · exact ih1 hn.1 h F1 H1 x hx
    · exact ih2 hn.2 h F2 H2 x hx
open SL (bk bkn mp old it exS puS emS stS)
def sep : List SL → SL
  | [] => emS
  | r :: rs => stS r (sep rs)
structure Hs (h : Hp) (rs : List SL) : Prop where
  own : ∃ F, (sep rs).P h F
theorem Hs.nil (h : Hp) : Hs h [] := ⟨fun _ => False, fun _ hh => hh⟩
theorem sep_swap {h : Hp} {F : Nat → Prop} {a b : SL} {rs : List SL} (H : (sep (a :: b :: rs)).P h F) : (sep (b :: a :: rs)).P h F := by
  obtain ⟨F1, F2, e, d, H1, F3, F4, e', d', H3, H4⟩ := H
  refine ⟨F3, fun x => F1 x ∨ F4 x, fun x => ?_, fun x h3 h14 => ?_, H3, F1, F4, fun x => Iff.rfl, fun x h1 h4 => d x h1 ((e' x).2 (.inr h4)), H1, H4⟩
  · rw [e, e']; constructor
    · rintro (h | h | h)
      · exact .inr (.inl h)
      · exact .inl h
      · exact .inr (.inr h)
    · rintro (h | h | h)
      · exact .inr (.inl h)
      · exact .inl h
      · exact .inr (.inr h)
  · rcases h14 with h1 | h4
    · exact d x h1 ((e' x).2 (.inl h3))
    · exact d' x h3 h4
theorem sep_cons {h : Hp} {F : Nat → Prop} {a : SL} {rs rs' : List SL} (hr : ∀ F, (sep rs).P h F → (sep rs').P h F) (H : (sep (a :: rs)).P h F) : (sep (a :: rs')).P h F := by
  obtain ⟨F1, F2, e, d, H1, H2⟩ := H
  exact ⟨F1, F2, e, d, H1, hr _ H2⟩
theorem sep_perm {rs rs' : List SL} (hp : rs.Perm rs') : ∀ {h : Hp} {F : Nat → Prop}, (sep rs).P h F → (sep rs').P h F := by
  induction hp with
  | nil => exact fun H => H
  | cons a _ ih => exact fun H => sep_cons (fun _ => ih) H
  | swap a b l => exact fun H => sep_swap H
  | trans _ _ ih1 ih2 => exact fun H => ih2 (ih1 H)
theorem Hs.perm {h : Hp} {rs rs' : List SL} (H : Hs h rs) (hp : rs.Perm rs') : Hs h rs' := by obtain ⟨F, H⟩ := H; exact ⟨F, sep_perm hp H⟩
theorem sep_app {h : Hp} : ∀ (l rs : List SL) (F : Nat → Prop), (sep (l ++ rs)).P h F ↔ (stS (sep l) (sep rs)).P h F
  | [], rs, F => by
    constructor
    · intro H; exact ⟨fun _ => False, F, fun x => by simp, fun _ h => h.elim, fun _ h => h, H⟩
    · rintro ⟨F1, F2, e, d, H1, H2⟩
      have : F = F2 := funext fun x => propext ⟨fun hx => ((e x).1 hx).resolve_left (H1 x), fun hx => (e x).2 (.inr hx)⟩
      rw [this]; exact H2
  | a :: l, rs, F => by
    constructor
    · rintro ⟨F1, F2, e, d, H1, H2⟩
      obtain ⟨F3, F4, e', d', H3, H4⟩ := (sep_app l rs F2).1 H2
      refine ⟨fun x => F1 x ∨ F3 x, F4, fun x => ?_, fun x h13 h4 => ?_, ⟨F1, F3, fun x => Iff.rfl, fun x h1 h3 => d x h1 ((e' x).2 (.inl h3)), H1, H3⟩, H4⟩
      · rw [e, e', or_assoc]
      · rcases h13 with h1 | h3
        · exact d x h1 ((e' x).2 (.inr h4))
        · exact d' x h3 h4
    · rintro ⟨F1, F2, e, d, ⟨F3, F4, e', d', H3, H4⟩, H2⟩
      refine ⟨F3, fun x => F4 x ∨ F2 x, fun x => ?_, fun x h3 h42 => ?_, H3, (sep_app l rs _).2 ⟨F4, F2, fun x => Iff.rfl, fun x h4 h2 => d x ((e' x).2 (.inr h4)) h2, H4, H2⟩⟩
      · rw [e, e', or_assoc]
      · rcases h42 with h4 | h2
        · exact d' x h3 h4
        · exact d x ((e' x).2 (.inl h3)) h2
theorem Hs.join {h : Hp} {l rs : List SL} : Hs h (sep l :: rs) ↔ Hs h (l ++ rs) := by
  constructor
  · rintro ⟨F, H⟩; exact ⟨F, (sep_app l rs F).2 H⟩
  · rintro ⟨F, H⟩; exact ⟨F, (sep_app l rs F).1 H⟩
theorem Hs.st {h : Hp} {a b : SL} {rs : List SL} : Hs h (stS a b :: rs) ↔ Hs h (a :: b :: rs) := by
  constructor
  · rintro ⟨F, F1, F2, e, d, ⟨F3, F4, e', d', H3, H4⟩, H2⟩
    refine ⟨F, F3, fun x => F4 x ∨ F2 x, fun x => ?_, fun x h3 h42 => ?_, H3, ⟨F4, F2, fun x => Iff.rfl, fun x h4 h2 => d x ((e' x).2 (.inr h4)) h2, H4, H2⟩⟩
    · rw [e, e', or_assoc]
    · rcases h42 with h4 | h2
      · exact d' x h3 h4
      · exact d x ((e' x).2 (.inl h3)) h2
  · rintro ⟨F, F1, F2, e, d, H1, ⟨F3, F4, e', d', H3, H4⟩⟩
    refine ⟨F, fun x => F1 x ∨ F3 x, F4, fun x => ?_, fun x h13 h4 => ?_, ⟨F1, F3, fun x => Iff.rfl, fun x h1 h3 => d x h1 ((e' x).2 (.inl h3)), H1, H3⟩, H4⟩
    · rw [e, e', or_assoc]
    · rcases h13 with h1 | h3
      · exact d x h1 ((e' x).2 (.inr h4))
      · exact d' x h3 h4
theorem Hs.ex {α : Type} {h : Hp} {f : α → SL} {rs : List SL} : Hs h (exS f :: rs) ↔ ∃ a, Hs h (f a :: rs) := by
  constructor
  · rintro ⟨F, F1, F2, e, d, ⟨a, H1⟩, H2⟩; exact ⟨a, F, F1, F2, e, d, H1, H2⟩
  · rintro ⟨a, F, F1, F2, e, d, H1, H2⟩; exact ⟨F, F1, F2, e, d, ⟨a, H1⟩, H2⟩
theorem Hs.pu {p : Prop} {h : Hp} {r : SL} {rs : List SL} : Hs h (puS p r :: rs) ↔ p ∧ Hs h (r :: rs) := by
  constructor
  · rintro ⟨F, F1, F2, e, d, ⟨hp, H1⟩, H2⟩; exact ⟨hp, F, F1, F2, e, d, H1, H2⟩
  · rintro ⟨hp, F, F1, F2, e, d, H1, H2⟩; exact ⟨F, F1, F2, e, d, ⟨hp, H1⟩, H2⟩
theorem Hs.em {h : Hp} {rs : List SL} : Hs h (emS :: rs) ↔ Hs h rs := @Hs.join h [] rs
theorem Hs.drop {h : Hp} {r : SL} {rs : List SL} (H : Hs h (r :: rs)) : Hs h rs := by
  obtain ⟨F, F1, F2, e, d, H1, H2⟩ := H; exact ⟨F2, H2⟩
theorem Hs.p1 {h : Hp} {a b : SL} {rs : List SL} (H : Hs h (a :: b :: rs)) : Hs h (b :: a :: rs) := H.perm (List.Perm.swap ..)
theorem Hs.cons {h : Hp} {a : SL} {rs rs' : List SL} (hr : ∀ F, (sep rs).P h F → (sep rs').P h F) (H : Hs h (a :: rs)) : Hs h (a :: rs') := by
  obtain ⟨F, H⟩ := H; exact ⟨F, sep_cons hr H⟩
theorem pull1 {a b : SL} {rs : List SL} : (a :: b :: rs).Perm (b :: a :: rs) := List.Perm.swap ..
theorem pullS {a b : SL} {rs rs' : List SL} (h : rs.Perm (b :: rs')) : (a :: rs).Perm (b :: a :: rs') := (List.Perm.cons a h).trans (List.Perm.swap ..)
theorem Hs.p2 {h : Hp} {a b c : SL} {rs : List SL} (H : Hs h (a :: b :: c :: rs)) : Hs h (c :: a :: b :: rs) := H.perm (pullS pull1)
theorem Hs.p3 {h : Hp} {a b c d : SL} {rs : List SL} (H : Hs h (a :: b :: c :: d :: rs)) : Hs h (d :: a :: b :: c :: rs) := H.perm (pullS (pullS pull1))
theorem Hs.p4 {h : Hp} {a b c d e : SL} {rs : List SL} (H : Hs h (a :: b :: c :: d :: e :: rs)) : Hs h (e :: a :: b :: c :: d :: rs) := H.perm (pullS (pullS (pullS pull1)))
theorem Hs.p5 {h : Hp} {a b c d e f : SL} {rs : List SL} (H : Hs h (a :: b :: c :: d :: e :: f :: rs)) : Hs h (f :: a :: b :: c :: d :: e :: rs) := H.perm (pullS (pullS (pullS (pullS pull1))))
theorem Hs.p6 {h : Hp} {a b c d e f g : SL} {rs : List SL} (H : Hs h (a :: b :: c :: d :: e :: f :: g :: rs)) : Hs h (g :: a :: b :: c :: d :: e :: f :: rs) :=
  H.perm (pullS (pullS (pullS (pullS (pullS pull1)))))
theorem Hs.p7 {h : Hp} {a b c d e f g k : SL} {rs : List SL} (H : Hs h (a :: b :: c :: d :: e :: f :: g :: k :: rs)) : Hs h (k :: a :: b :: c :: d :: e :: f :: g :: rs) :=
  H.perm (pullS (pullS (pullS (pullS (pullS (pullS pull1))))))
theorem Hs.p8 {h : Hp} {a b c d e f g k l : SL} {rs : List SL} (H : Hs h (a :: b :: c :: d :: e :: f :: g :: k :: l :: rs)) : Hs h (l :: a :: b :: c :: d :: e :: f :: g :: k :: rs) :=
  H.perm (pullS (pullS (pullS (pullS (pullS (pullS (pullS pull1)))))))
/-- the first piece stays where it is, the others are changed. -/
theorem Hs.blk {h : Hp} {b : Nat} {cs : List Value} {rs : List SL} (H : Hs h (bk b cs :: rs)) : Blk h b cs := by
  obtain ⟨F, F1, F2, e, d, H1, H2⟩ := H; exact H1.2
theorem Hs.mapd {h : Hp} {b : Nat} {es : List MapEntry} {c : Nat} {rs : List SL} (H : Hs h (mp b es c :: rs)) : Mp h b es c := by
  obtain ⟨F, F1, F2, e, d, H1, H2⟩ := H; exact H1.2
theorem Hs.oldB {h h0 : Hp} {b : Nat} {cs : List Value} {rs : List SL} (H : Hs h (old h0 :: rs)) (H0 : Blk h0 b cs) : Blk h b cs := by
  obtain ⟨F, F1, F2, e, d, H1, H2⟩ := H; 
  obtain ⟨e, fz, h1, h2⟩ := H0
  exact ⟨e, fz, (H1.2.2 b ((H1.1 b).2 ⟨_, h1, rfl⟩)).trans h1, h2⟩
theorem Hs.oldR {h h0 : Hp} {b : Nat} {cs : List Value} {rs : List SL} (H : Hs h (old h0 :: rs)) (H0 : BlR h0 b cs) : BlR h b cs := by
  obtain ⟨F, F1, F2, e, d, H1, H2⟩ := H
  obtain ⟨e, fz, h1⟩ := H0
  exact ⟨e, fz, (H1.2.2 b ((H1.1 b).2 ⟨_, h1, rfl⟩)).trans h1⟩
theorem Hs.oldM {h h0 : Hp} {b : Nat} {es : List MapEntry} {c : Nat} {rs : List SL} (H : Hs h (old h0 :: rs)) (H0 : Mp h0 b es c) : Mp h b es c := by
  obtain ⟨F, F1, F2, e, d, H1, H2⟩ := H; 
  unfold Mp at *
  exact (H1.2.2 b ((H1.1 b).2 ⟨_, H0, rfl⟩)).trans H0
theorem Hs.ch {h h' : Hp} {S : Nat → Prop} {r r' : SL} {rs : List SL} (H : Hs h (r :: rs)) (hc : Ch S h h') (hr : ∀ F, r.P h F → (∀ x, S x → F x) ∧ r'.P h' F) : Hs h' (r' :: rs) := by
  obtain ⟨F, F1, F2, e, d, H1, H2⟩ := H
  obtain ⟨h1, h2⟩ := hr F1 H1
  exact ⟨F, F1, F2, e, d, h2, (sep rs).loc h h' F2 H2 hc.size fun b hb => (hc.same b ((sep rs).lt h F2 H2 b hb) fun hs => d b (h1 b hs) hb)⟩
theorem Hs.upd {h h' : Hp} {b : Nat} {cs cs' : List Value} {rs : List SL} (H : Hs h (bk b cs :: rs)) (hu : Upd h h' b cs') : Hs h' (bk b cs' :: rs) :=
  H.ch hu.ch fun F hF => ⟨fun x hx => (hF.1 x).2 hx, hF.1, hu.blk⟩
theorem Hs.new {h h' : Hp} {b : Nat} {cs : List Value} {rs : List SL} (H : Hs h rs) (hu : New h h' b cs) : Hs h' (bk b cs :: rs) := by
  obtain ⟨F, H⟩ := H
  refine ⟨fun x => x = b ∨ F x, (· = b), F, fun x => Iff.rfl, fun x h1 h2 => ?_, ⟨fun x => Iff.rfl, hu.blk⟩, (sep rs).loc h h' F H hu.ext.size fun x hx => (hu.ext.same x ((sep rs).lt h F H x hx) id)⟩
  have := (sep rs).lt h F H x h2
  rw [h1, hu.eq] at this; exact Nat.lt_irrefl _ this
theorem sep_lo {n : Nat} : ∀ {rs : List SL}, (∀ r ∈ rs, r.lo n) → (sep rs).lo n
  | [], _ => trivial
  | r :: rs, h => ⟨h r (List.mem_cons_self ..), sep_lo fun x hx => h x (List.mem_cons_of_mem _ hx)⟩
theorem sep_ll {n : Nat} : ∀ {rs : List SL}, (∀ r ∈ rs, r.ll n) → (sep rs).ll n
  | [], _ => trivial
  | r :: rs, h => ⟨h r (List.mem_cons_self ..), sep_ll fun x hx => h x (List.mem_cons_of_mem _ hx)⟩
theorem Hs.cx {n : Nat} {h h' : Hp} {rs : List SL} (H : Hs h rs) (hn : ∀ r ∈ rs, r.lo n) (hc : Cx n h h') : Hs h' rs := by
  obtain ⟨F, H⟩ := H
  exact ⟨F, (sep rs).locC (sep_lo hn) h h' F H hc.1 fun b hb => hc.2 b ((sep rs).lt h F H b hb)⟩
theorem Hs.lx {n : Nat} {h h' : Hp} {rs : List SL} (H : Hs h rs) (hn : ∀ r ∈ rs, r.ll n) (hc : Lx n h h') : Hs h' rs := by
  obtain ⟨F, H⟩ := H
  exact ⟨F, (sep rs).locL (sep_ll hn) h h' F H hc.1 fun b hb => hc.2 b ((sep rs).lt h F H b hb)⟩
theorem Hs.extd {h h' : Hp} {rs : List SL} (H : Hs h rs) (hc : Ext h h') : Hs h' rs := by
  obtain ⟨F, H⟩ := H
  exact ⟨F, (sep rs).loc h h' F H hc.size fun b hb => hc.same b ((sep rs).lt h F H b hb) id⟩
theorem Hs.start (h : Hp) : Hs h [old h, SL.fz h] := by
  refine ⟨fun x => (∃ o, h[x]? = some o ∧ ctl o = false) ∨ ∃ o, h[x]? = some o ∧ ctl o = true, fun x => ∃ o, h[x]? = some o ∧ ctl o = false, fun x => ∃ o, h[x]? = some o ∧ ctl o = true, fun x => Iff.rfl, ?_, ⟨fun x => Iff.rfl, Nat.le_refl _, fun b _ => rfl⟩,
    fun x => ∃ o, h[x]? = some o ∧ ctl o = true, fun _ => False, fun x => by simp, fun _ _ h => h, ⟨fun x => Iff.rfl, Nat.le_refl _, fun b _ => rfl⟩, fun _ h => h⟩
  rintro x ⟨o, h1, h2⟩ ⟨p, h3, h4⟩
  rw [h1] at h3; cases h3; rw [h2] at h4; cases h4
/-- all that there was is there, as it was. -/
theorem Hs.same {h h0 : Hp} {rs : List SL} (H : Hs h (old h0 :: SL.fz h0 :: rs)) : h0.size ≤ h.size ∧ ∀ b, b < h0.size → h[b]? = h0[b]? := by
  obtain ⟨F, F1, F2, e, d, H1, F3, F4, e', d', H3, H4⟩ := H
  refine ⟨H1.2.1, fun b hb => ?_⟩
  cases hc : ctl h0[b] with
  | false => exact H1.2.2 b ((H1.1 b).2 ⟨h0[b], by simp [hb], hc⟩)
  | true => exact H3.2.2 b ((H3.1 b).2 ⟨h0[b], by simp [hb], hc⟩)
/-- how many blocks there are now. -/
theorem Hs.szs {h : Hp} {rs : List SL} (H : Hs h rs) : Hs h (SL.sz h.size :: rs) := by
  obtain ⟨F, H⟩ := H
  exact ⟨F, fun _ => False, F, fun x => by simp, fun _ h => h.elim, ⟨fun _ h => h, Nat.le_refl _⟩, H⟩
theorem Hs.szle {n : Nat} {h : Hp} {rs : List SL} (H : Hs h (SL.sz n :: rs)) : n ≤ h.size := by
  obtain ⟨F, F1, F2, e, d, H1, H2⟩ := H; exact H1.2
theorem Hs.fzle {h h0 : Hp} {rs : List SL} (H : Hs h (SL.fz h0 :: rs)) : h0.size ≤ h.size := by
  obtain ⟨F, F1, F2, e, d, H1, H2⟩ := H; exact H1.2.1
theorem Hs.sfs {n : Nat} {h : Hp} {rs : List SL} (H : Hs h rs) (hn : ∀ r ∈ rs, r.lo n) : Hs h (SL.sf n h :: rs) := by
  obtain ⟨F, H⟩ := H
  refine ⟨fun x => (n ≤ x ∧ ∃ o, h[x]? = some o ∧ soft o = true) ∨ F x, fun x => n ≤ x ∧ ∃ o, h[x]? = some o ∧ soft o = true, F, fun x => Iff.rfl, ?_, ⟨fun x => Iff.rfl, Nat.le_refl _, fun b _ => rfl⟩, H⟩
  rintro x ⟨h0, o, h1, h2⟩ hf
  have := (sep rs).hard (sep_lo hn) h F H x hf o h1 h2
  omega
theorem Hs.sk {n : Nat} {h h0 : Hp} {rs : List SL} (H : Hs h (SL.sf n h0 :: rs)) : Sk n h0 h := by
  obtain ⟨F, F1, F2, e, d, H1, H2⟩ := H
  exact fun b o hb h1 h2 => (H1.2.2 b ((H1.1 b).2 ⟨hb, o, h1, h2⟩)).trans h1
theorem Hs.ne {h : Hp} {b b' : Nat} {cs cs' : List Value} {rs : List SL} (H : Hs h (bk b cs :: bk b' cs' :: rs)) : b ≠ b' := by
  obtain ⟨F, F1, F2, e, d, H1, F3, F4, e', d', H3, H4⟩ := H
  intro he; exact d b ((H1.1 b).2 rfl) ((e' b).2 (.inl ((H3.1 b).2 he)))
/-- what a piece comes to can be said in another way. -/
theorem Hs.imp {h : Hp} {r r' : SL} {rs : List SL} (H : Hs h (r :: rs)) (hr : ∀ F, r.P h F → r'.P h F) : Hs h (r' :: rs) := by
  obtain ⟨F, F1, F2, e, d, H1, H2⟩ := H; exact ⟨F, F1, F2, e, d, hr _ H1, H2⟩
theorem Hs.eqv {h : Hp} {r r' : SL} {rs : List SL} (H : Hs h (r :: rs)) (hr : r = r') : Hs h (r' :: rs) := hr ▸ H

/-! steps over owned blocks -/
section
variable {h : Hp} {K : Value → A} {X Y : A} {rs : List SL}
theorem alS {z : List Value} {t : TypeId} (H : Hs h rs) (k : ∀ b h', Hs h' (bk b z :: rs) → K (pt b 0) h') : al z t K h := al_s fun h' b hn => k b h' (H.new hn)
theorem bxS {v : Value} {t : TypeId} (H : Hs h rs) (k : ∀ b h', Hs h' (bk b v.cells.toList :: rs) → K (pt b 0) h') : bx t v K h := bx_s fun h' b hn => k b h' (H.new hn)
theorem bslS {z : List Value} {e n : Nat} {ps : List (Nat × Nat × Value)} (H : Hs h rs) (cs : List Value) (hf : fill2 (rep z n) ps = some cs) (k : ∀ b h', Hs h' (bk b cs :: rs) → K (sl b 0 n n) h') : bsl z e n ps K h :=
  bsl_s cs hf fun h' b hn => k b h' (H.new hn)
theorem ld1S {b o : Nat} {cs : List Value} (H : Hs h (bk b cs :: rs)) (v : Value) (hv : cs[o]? = some v) (k : K v h) : ld1 (pt b o) K h := ld1_s H.blk v hv k
theorem ldnS {b o n : Nat} {cs : List Value} (H : Hs h (bk b cs :: rs)) (vs : List Value) (hl : o + n ≤ cs.length) (hv : (cs.drop o).take n = vs) (k : K (.agg vs.toArray) h) : ldn n (pt b o) K h := ldn_s H.blk vs hl hv k
theorem stS_ {b o n : Nat} {cs : List Value} {v : Value} (H : Hs h (bk b cs :: rs)) (hn : v.cells.size = n) (hl : o + n ≤ cs.length) (h1 : ∀ u ∈ v.cells.toList, oneC u = true)
    (k : ∀ h', Hs h' (bk b (splice cs o v.cells.toList) :: rs) → X h') : st n (pt b o) v X h := st_s H.blk hn hl h1 fun h' hu => k h' (H.upd hu)
end
end Go.Proofs.YtalknmdbamlabaaGreat.Q
