/- Rising lists of keys and values; how a node's items stand between its kids' ones. No memory here. Conditions: none. -/
import Derived.Test.YtalknmdbamlabaaGreatP1
namespace Go.Proofs.YtalknmdbamlabaaGreat.Q
open Go
open SL (bk bkn mp old exS puS emS stS)
abbrev RiseI (l : List It) : Prop := Rise (l.map (·.1))
theorem RiseI_app {a b : List It} : RiseI (a ++ b) ↔ RiseI a ∧ RiseI b ∧ ∀ x ∈ a, ∀ y ∈ b, bl x.1 y.1 = true := by
  unfold RiseI Rise
  rw [List.map_append, List.pairwise_append]
  simp only [List.mem_map, forall_exists_index, and_imp, forall_apply_eq_imp_iff₂]
theorem RiseI_cons {x : It} {b : List It} : RiseI (x :: b) ↔ (∀ y ∈ b, bl x.1 y.1 = true) ∧ RiseI b := by
  unfold RiseI Rise
  rw [List.map_cons, List.pairwise_cons]
  simp only [List.mem_map, forall_exists_index, and_imp, forall_apply_eq_imp_iff₂]
def lok (k : ByteArray) (l : List It) : List It := l.filter fun x => bl x.1 k
def hik (k : ByteArray) (l : List It) : List It := l.filter fun x => bl k x.1
def ins (k : ByteArray) (v : List Value) (l : List It) : List It := lok k l ++ (k, v) :: hik k l
def del (k : ByteArray) (l : List It) : List It := lok k l ++ hik k l
def val (k : ByteArray) (l : List It) : Option (List Value) := (l.find? fun x => decide (x.1 = k)).map (·.2)
theorem lok_app (k : ByteArray) (a b : List It) : lok k (a ++ b) = lok k a ++ lok k b := List.filter_append ..
theorem hik_app (k : ByteArray) (a b : List It) : hik k (a ++ b) = hik k a ++ hik k b := List.filter_append ..
theorem lok_all {k : ByteArray} {a : List It} (h : ∀ y ∈ a, bl y.1 k = true) : lok k a = a := List.filter_eq_self.2 h
theorem hik_all {k : ByteArray} {a : List It} (h : ∀ y ∈ a, bl k y.1 = true) : hik k a = a := List.filter_eq_self.2 h
theorem lok_no {k : ByteArray} {a : List It} (h : ∀ y ∈ a, bl k y.1 = true) : lok k a = [] := List.filter_eq_nil_iff.2 fun y hy => by rw [bl_asym (h y hy)]; simp
theorem hik_no {k : ByteArray} {a : List It} (h : ∀ y ∈ a, bl y.1 k = true) : hik k a = [] := List.filter_eq_nil_iff.2 fun y hy => by rw [bl_asym (h y hy)]; simp
theorem bl_ne {a b : ByteArray} (h : bl a b = true) : a ≠ b := by rintro rfl; rw [bl_irr] at h; cases h
theorem look_app (k : ByteArray) (a b : List It) : val k (a ++ b) = (val k a).or (val k b) := by
  unfold val; rw [List.find?_append]; cases List.find? _ a <;> rfl
theorem look_none {k : ByteArray} {a : List It} (h : ∀ y ∈ a, y.1 ≠ k) : val k a = none := by
  unfold val; rw [List.find?_eq_none.2 (by simpa using h)]; rfl
theorem ins_mid {k : ByteArray} {v : List Value} {A m B : List It} (ha : ∀ y ∈ A, bl y.1 k = true) (hb : ∀ y ∈ B, bl k y.1 = true) : ins k v (A ++ m ++ B) = A ++ ins k v m ++ B := by
  unfold ins
  rw [lok_app, lok_app, hik_app, hik_app, lok_all ha, hik_no ha, lok_no hb, hik_all hb]
  simp
theorem del_mid {k : ByteArray} {A m B : List It} (ha : ∀ y ∈ A, bl y.1 k = true) (hb : ∀ y ∈ B, bl k y.1 = true) : del k (A ++ m ++ B) = A ++ del k m ++ B := by
  unfold del
  rw [lok_app, lok_app, hik_app, hik_app, lok_all ha, hik_no ha, lok_no hb, hik_all hb]
  simp
theorem look_mid {k : ByteArray} {A m B : List It} (ha : ∀ y ∈ A, bl y.1 k = true) (hb : ∀ y ∈ B, bl k y.1 = true) : val k (A ++ m ++ B) = val k m := by
  rw [look_app, look_app, look_none fun y hy => bl_ne (ha y hy), look_none (a := B) fun y hy => (bl_ne (hb y hy)).symm]
  simp
theorem ins_at {k : ByteArray} {v w : List Value} {A B : List It} (ha : ∀ y ∈ A, bl y.1 k = true) (hb : ∀ y ∈ B, bl k y.1 = true) : ins k v (A ++ (k, w) :: B) = A ++ (k, v) :: B := by
  have := ins_mid (k := k) (v := v) (m := [(k, w)]) ha hb
  simp only [List.append_assoc, List.singleton_append] at this
  rw [this]; simp [ins, lok, hik, bl_irr]
theorem del_at {k : ByteArray} {w : List Value} {A B : List It} (ha : ∀ y ∈ A, bl y.1 k = true) (hb : ∀ y ∈ B, bl k y.1 = true) : del k (A ++ (k, w) :: B) = A ++ B := by
  have := del_mid (k := k) (m := [(k, w)]) ha hb
  simp only [List.append_assoc, List.singleton_append] at this
  rw [this]; simp [del, lok, hik, bl_irr]
theorem look_at {k : ByteArray} {w : List Value} {A B : List It} (ha : ∀ y ∈ A, bl y.1 k = true) (hb : ∀ y ∈ B, bl k y.1 = true) : val k (A ++ (k, w) :: B) = some w := by
  have := look_mid (k := k) (m := [(k, w)]) ha hb
  simp only [List.append_assoc, List.singleton_append] at this
  rw [this]; simp [val]
theorem ins_new {k : ByteArray} {v : List Value} {A B : List It} (ha : ∀ y ∈ A, bl y.1 k = true) (hb : ∀ y ∈ B, bl k y.1 = true) : ins k v (A ++ B) = A ++ (k, v) :: B := by
  have := ins_mid (k := k) (v := v) (m := []) ha hb
  simpa [ins, lok, hik] using this
theorem look_new {k : ByteArray} {A B : List It} (ha : ∀ y ∈ A, bl y.1 k = true) (hb : ∀ y ∈ B, bl k y.1 = true) : val k (A ++ B) = none := by
  have := look_mid (k := k) (m := []) ha hb
  simpa [val] using this
theorem del_new {k : ByteArray} {A B : List It} (ha : ∀ y ∈ A, bl y.1 k = true) (hb : ∀ y ∈ B, bl k y.1 = true) : del k (A ++ B) = A ++ B := by
  have := del_mid (k := k) (m := []) ha hb
  simpa [del, lok, hik] using this
/-! items between kids -/
def inter : List (List It) → List It → List It
  | k :: ks, x :: is => k ++ x :: inter ks is
  | k :: _, [] => k
  | [], _ => []
def preI : List (List It) → List It → List It
  | k :: ks, x :: is => k ++ x :: preI ks is
  | _, _ => []
def postI : List It → List (List It) → List It
  | x :: is, k :: ks => x :: k ++ postI is ks
  | _, _ => []
theorem inter_split : ∀ {K1 : List (List It)} {I1 : List It} {q : List It} {K2 : List (List It)} {I2 : List It}, K1.length = I1.length → K2.length = I2.length →
    inter (K1 ++ q :: K2) (I1 ++ I2) = preI K1 I1 ++ q ++ postI I2 K2
  | [], [], q, [], [], _, _ => by simp [inter, preI, postI]
  | [], [], q, k :: K2, x :: I2, _, h => by
    have ih := @inter_split [] [] k K2 I2 rfl (by simpa using h)
    simp only [List.nil_append] at ih
    simp [inter, preI, postI, ih]
  | k :: K1, x :: I1, q, K2, I2, h, h' => by
    have ih := @inter_split K1 I1 q K2 I2 (by simpa using h) h'
    simp [inter, preI, ih]
  | [], _ :: _, _, _, _, h, _ => by simp at h
  | _ :: _, [], _, _, _, h, _ => by simp at h
  | [], [], _, [], _ :: _, _, h => by simp at h
  | [], [], _, _ :: _, [], _, h => by simp at h
theorem inter_cut : ∀ {K1 : List (List It)} {I1 : List It} {x : It} {K2 : List (List It)} {I2 : List It}, K1.length = I1.length + 1 →
    inter (K1 ++ K2) (I1 ++ x :: I2) = inter K1 I1 ++ x :: inter K2 I2
  | [k], [], x, K2, I2, _ => by simp [inter]
  | k :: K1, y :: I1, x, K2, I2, h => by
    have ih := @inter_cut K1 I1 x K2 I2 (by simpa using h)
    simp [inter, ih]
  | [], _, _, _, _, h => by simp at h
  | _ :: _ :: _, [], _, _, _, h => by simp at h
theorem preI_lt {k : ByteArray} : ∀ {K : List (List It)} {I : List It}, RiseI (preI K I) → K.length = I.length → (∀ x ∈ I, bl x.1 k = true) → ∀ y ∈ preI K I, bl y.1 k = true
  | [], _, _, _, _, y, hy => by simp [preI] at hy
  | _ :: _, [], _, h, _, _, _ => by simp at h
  | q :: K, x :: I, hr, h, hx, y, hy => by
    simp only [preI, List.mem_append, List.mem_cons] at hy
    simp only [preI] at hr
    obtain ⟨h1, h2, h3⟩ := RiseI_app.1 hr
    rcases hy with hy | rfl | hy
    · exact bl_trans (h3 y hy x (List.mem_cons_self ..)) (hx x (List.mem_cons_self ..))
    · exact hx _ (List.mem_cons_self ..)
    · exact preI_lt (RiseI_cons.1 h2).2 (by simpa using h) (fun z hz => hx z (List.mem_cons_of_mem _ hz)) y hy
theorem postI_gt {k : ByteArray} : ∀ {I : List It} {K : List (List It)}, RiseI (postI I K) → K.length = I.length → (∀ x ∈ I, bl k x.1 = true) → ∀ y ∈ postI I K, bl k y.1 = true
  | [], _, _, _, _, y, hy => by simp [postI] at hy
  | _ :: _, [], _, h, _, _, _ => by simp at h
  | x :: I, q :: K, hr, h, hx, y, hy => by
    simp only [postI, List.mem_append, List.mem_cons] at hy
    simp only [postI] at hr
    obtain ⟨h1, h2, h3⟩ := RiseI_app.1 hr
    rcases hy with (rfl | hy) | hy
    · exact hx _ (List.mem_cons_self ..)
    · exact bl_trans (hx x (List.mem_cons_self ..)) ((RiseI_cons.1 h1).1 y hy)
    · exact postI_gt h2 (by simpa using h) (fun z hz => hx z (List.mem_cons_of_mem _ hz)) y hy
theorem inter_items : ∀ {K : List (List It)} {I : List It}, K.length = I.length + 1 → RiseI (inter K I) → RiseI I ∧ (∀ q ∈ K, RiseI q)
  | [k], [], _, h => by
    refine ⟨by simp [RiseI, Rise], ?_⟩
    intro q hq; simp at hq; subst hq; simpa [inter] using h
  | k :: K, x :: I, hl, h => by
    simp only [inter] at h
    obtain ⟨h1, h2, h3⟩ := RiseI_app.1 h
    obtain ⟨h4, h5⟩ := RiseI_cons.1 h2
    obtain ⟨i1, i2⟩ := inter_items (K := K) (I := I) (by simpa using hl) h5
    refine ⟨RiseI_cons.2 ⟨fun y hy => h4 y ?_, i1⟩, fun q hq => ?_⟩
    · clear h1 h2 h3 h4 h5 i1 i2 h
      have : ∀ {K : List (List It)} {I : List It}, K.length = I.length + 1 → ∀ y ∈ I, y ∈ inter K I := by
        intro K I
        induction I generalizing K with
        | nil => intro _ y hy; cases hy
        | cons z I ih =>
          intro hl y hy
          cases K with
          | nil => simp at hl
          | cons k K =>
            simp only [inter, List.mem_append, List.mem_cons]
            rcases List.mem_cons.1 hy with rfl | hy
            · exact .inr (.inl rfl)
            · exact .inr (.inr (ih (by simpa using hl) y hy))
      exact this (by simpa using hl) y hy
    · rcases List.mem_cons.1 hq with rfl | hq
      · exact h1
      · exact i2 q hq
  | [], _, h, _ => by simp at h
  | _ :: _ :: _, [], h, _ => by simp at h
theorem rise_ins {k : ByteArray} {v : List Value} {l : List It} (h : RiseI l) : RiseI (ins k v l) := by
  have hl : ∀ y ∈ lok k l, bl y.1 k = true := fun y hy => (List.mem_filter.1 hy).2
  have hh : ∀ y ∈ hik k l, bl k y.1 = true := fun y hy => (List.mem_filter.1 hy).2
  have s1 : RiseI (lok k l) := by
    unfold RiseI Rise at *
    exact List.Pairwise.sublist (List.filter_sublist.map _) h
  have s2 : RiseI (hik k l) := by
    unfold RiseI Rise at *
    exact List.Pairwise.sublist (List.filter_sublist.map _) h
  unfold ins
  refine RiseI_app.2 ⟨s1, RiseI_cons.2 ⟨hh, s2⟩, fun x hx y hy => ?_⟩
  rcases List.mem_cons.1 hy with rfl | hy
  · exact hl x hx
  · exact bl_trans (hl x hx) (hh y hy)
theorem rise_del {k : ByteArray} {l : List It} (h : RiseI l) : RiseI (del k l) := by
  have hl : ∀ y ∈ lok k l, bl y.1 k = true := fun y hy => (List.mem_filter.1 hy).2
  have hh : ∀ y ∈ hik k l, bl k y.1 = true := fun y hy => (List.mem_filter.1 hy).2
  have s1 : RiseI (lok k l) := by
    unfold RiseI Rise at *
    exact List.Pairwise.sublist (List.filter_sublist.map _) h
  have s2 : RiseI (hik k l) := by
    unfold RiseI Rise at *
    exact List.Pairwise.sublist (List.filter_sublist.map _) h
  exact RiseI_app.2 ⟨s1, s2, fun x hx y hy => bl_trans (hl x hx) (hh y hy)⟩
/-- what the search tells of a rising list. -/
theorem pos_split {l : List It} {k : ByteArray} {i : Nat} (hr : RiseI l) (hp : Pos (l.map (·.1)) k i) :
    (∀ y ∈ l.take i, bl y.1 k = true) ∧ i ≤ l.length ∧
    ((∃ w, (l.map (·.1))[i]? = some k ∧ l = l.take i ++ (k, w) :: l.drop (i + 1) ∧ l[i]? = some (k, w) ∧ (∀ y ∈ l.drop (i + 1), bl k y.1 = true)) ∨
     ((l.map (·.1))[i]? ≠ some k ∧ (∀ y ∈ l.drop i, bl k y.1 = true))) := by
  have hle : i ≤ l.length := by simpa using hp.le
  refine ⟨?_, hle, ?_⟩
  · intro y hy
    obtain ⟨m, hm, rfl⟩ := List.getElem_of_mem hy
    simp only [List.length_take] at hm
    have := hp.lo m (by simp; omega) (by omega)
    simpa using this
  · by_cases hf : (l.map (·.1))[i]? = some k
    · left
      obtain ⟨hi, hk⟩ := List.getElem?_eq_some_iff.1 hf
      have hi' : i < l.length := by simpa using hi
      have hk' : l[i].1 = k := by simpa using hk
      refine ⟨l[i].2, hf, ?_, ?_, ?_⟩
      · have e : (k, l[i].2) = l[i] := by rw [← hk']
        rw [e]
        conv => lhs; rw [← List.take_append_drop i l, List.drop_eq_getElem_cons hi']
      · rw [List.getElem?_eq_getElem hi', ← hk']
      · intro y hy
        have e0 := List.drop_eq_getElem_cons hi'
        have hs : RiseI (l.drop i) := by unfold RiseI Rise at *; exact List.Pairwise.sublist ((List.drop_sublist i l).map _) hr
        rw [e0] at hs
        rw [← hk']
        exact (RiseI_cons.1 hs).1 y hy
    · right
      refine ⟨hf, fun y hy => ?_⟩
      obtain ⟨m, hm, rfl⟩ := List.getElem_of_mem hy
      simp only [List.length_drop] at hm
      have h1 := hp.hi (i + m) (by simp; omega) (by omega)
      simp only [List.getElem_map] at h1
      rw [List.getElem_drop]
      rcases bl_tri l[i + m].1 k with h2 | h2 | h2
      · rw [h1] at h2; cases h2
      · exfalso
        have hil : i < l.length := by omega
        by_cases hm0 : m = 0
        · subst hm0
          apply hf
          rw [List.getElem?_map, List.getElem?_eq_getElem hil]
          simpa using h2
        · have h3 := List.pairwise_iff_getElem.1 hr i (i + m) (by simpa using hil) (by simp; omega) (by omega)
          simp only [List.getElem_map] at h3
          rw [h2] at h3
          have h4 := hp.hi i (by simpa using hil) (Nat.le_refl _)
          simp only [List.getElem_map] at h4
          rw [h3] at h4; cases h4
      · exact h2
end Go.Proofs.YtalknmdbamlabaaGreat.Q
