/- The law's own functions: a step on both. Conditions: none. -/
import Derived.Test.YtalknmdbamlabaaGreatP23
namespace Go.Proofs.YtalknmdbamlabaaGreat.Q
open Go
open SL (bk bkn mp old it exS puS emS stS)
theorem Sr.src {h : Hp} {z : Nat} {s : Value} {es : List (List Value)} (S : Sr h z s es) : srcOf h z s = some (es.length, es.flatten) := by
  obtain ⟨a, n, c, rfl, rfl, h3, h4, h5⟩ := S
  cases hes : es with
  | nil => cases a <;> simp [srcOf, cels]
  | cons e0 es0 =>
    obtain ⟨b, o, rfl, cs, hb, _, _⟩ := h5 0 (by rw [hes]; simp)
    have hrd : ∀ i, (hi : i < es.length) → o + i * z + z ≤ cs.length ∧ (cs.drop (o + i * z)).take z = es[i] := by
      intro i hi
      obtain ⟨b', o', e, cs', hb', h6, h7⟩ := h5 i hi
      cases e
      have := hb.uniq hb'
      subst this
      have hl := h3 es[i] (List.getElem_mem hi)
      rw [hl] at h6 h7
      exact ⟨h6, h7⟩
    have hfl := flat_len h3
    have hall : ∀ k, k ≤ es.length → o + k * z ≤ cs.length ∧ (cs.drop o).take (k * z) = (es.take k).flatten := by
      intro k
      induction k with
      | zero =>
        intro _
        have := (hrd 0 (by rw [hes]; simp)).1
        exact ⟨by omega, by simp⟩
      | succ k ih =>
        intro hk
        obtain ⟨h6, h7⟩ := hrd k (by omega)
        obtain ⟨i1, i2⟩ := ih (by omega)
        refine ⟨by rw [Nat.succ_mul]; omega, ?_⟩
        rw [List.take_succ_eq_append_getElem (by omega), List.flatten_append, ← i2, Nat.succ_mul, List.take_add, List.drop_drop]
        simp only [List.flatten_cons, List.flatten_nil, List.append_nil]
        rw [h7]
    obtain ⟨i1, i2⟩ := hall es.length (Nat.le_refl _)
    rw [← hes]
    refine srcRd (vs := es.flatten) ⟨cs, hb, by rw [hfl]; exact i1, ?_⟩ hfl
    rw [hfl, i2, List.take_length]
theorem gin_mem {α : Type} {k : ByteArray} {v : α} {l : List (ByteArray × α)} {x : ByteArray × α} (h : x ∈ gin k v l) : x = (k, v) ∨ x ∈ l := by
  unfold gin glo ghi at h
  rcases List.mem_append.1 h with h | h
  · exact .inr (List.mem_filter.1 h).1
  · rcases List.mem_cons.1 h with h | h
    · exact .inl h
    · exact .inr (List.mem_filter.1 h).1
theorem gin_len {α : Type} (k : ByteArray) (v : α) (l : List (ByteArray × α)) : (gin k v l).length ≤ l.length + 1 := by
  have : ∀ l : List (ByteArray × α), (glo k l).length + (ghi k l).length ≤ l.length := by
    intro l
    induction l with
    | nil => simp [glo, ghi]
    | cons x l ih =>
      unfold glo ghi at *
      cases h1 : bl x.1 k with
      | true => have := bl_asym h1; simp [h1, this]; omega
      | false => cases h2 : bl k x.1 <;> simp [h1, h2] <;> omega
  have := this l
  unfold gin
  simp; omega
theorem gin_rise {α : Type} {k : ByteArray} {v : α} {l : List (ByteArray × α)} (h : Rise (l.map (·.1))) : Rise ((gin k v l).map (·.1)) := by
  have e := keys_mapV (fun _ : α => ([] : List Value)) l
  have h' : RiseI (mapV (fun _ : α => ([] : List Value)) l) := by unfold RiseI; rw [e]; exact h
  have := rise_ins (k := k) (v := []) h'
  unfold RiseI at this
  rw [ins_gin, gin_mapV k (fun _ : α => ([] : List Value)) v l, keys_mapV] at this
  exact this
theorem getRc_cnt {k : ByteArray} {reg : Int} {rows : List (ByteArray × Rc)} (hc : ∀ x ∈ rows, x.2.cnt ≤ 18446744073709551615) : (getRc k reg rows).cnt ≤ 18446744073709551615 := by
  unfold getRc
  cases hg : gval k rows with
  | none => simp
  | some r =>
    obtain ⟨a, b, e2, _⟩ := gval_mem hg
    exact hc (k, r) (by rw [e2]; simp)
theorem mvRows_cnt {k : ByteArray} {home reg : Int} {rows : List (ByteArray × Rc)} (hc : ∀ x ∈ rows, x.2.cnt ≤ 18446744073709551615) : ∀ x ∈ mvRows k home reg rows, x.2.cnt ≤ 18446744073709551615 := by
  have h1 := getRc_cnt (k := k) (reg := reg) hc
  intro x hx
  unfold mvRows at hx
  split at hx
  · exact hc x hx
  · split at hx
    · exact hc x hx
    · rcases gin_mem hx with rfl | hx
      · show (getRc k reg rows).cnt + 1 ≤ _; omega
      · exact hc x hx
theorem getRw_cnt {k : ByteArray} {reg : Int} {rows : Rws} (hc : ∀ x ∈ rows, x.2.cnt ≤ 18446744073709551615) : (getRw k reg rows).cnt ≤ 18446744073709551615 := by
  unfold getRw
  cases hg : gval k rows with
  | none => simp
  | some r =>
    obtain ⟨a, b, e2, _⟩ := gval_mem hg
    exact hc (k, r) (by rw [e2]; simp)
theorem mvRw_cnt {k : ByteArray} {home reg : Int} {rows : Rws} (hc : ∀ x ∈ rows, x.2.cnt ≤ 18446744073709551615) : (∀ x ∈ mvRw k home reg rows, x.2.cnt ≤ 18446744073709551615) ∧ (mvRw k home reg rows).length ≤ rows.length + 1 := by
  have h1 := getRw_cnt (k := k) (reg := reg) hc
  unfold mvRw
  split
  · exact ⟨hc, Nat.le_succ _⟩
  · split
    · exact ⟨hc, Nat.le_succ _⟩
    · refine ⟨fun x hx => ?_, gin_len ..⟩
      rcases gin_mem hx with rfl | hx
      · show (getRw k reg rows).cnt + 1 ≤ _; omega
      · exact hc x hx
theorem r105 {h : Hp} {rs : List SL} {m : Nat} {reg home : Int} {rows : Rws} {k : ByteArray} (hr : reg ≤ 1000) (hk : k.size ≤ 1000000000) (hl : rows.length ≤ 1000000) (hc : ∀ x ∈ rows, x.2.cnt ≤ 18446744073709551615) (H : Hs h (refS m reg rows :: rs)) :
    FnW Tryz.prog 105 #[pt m 0, .string k, vi home] (fun v h' => v = vi (mvRwNum k home reg rows) ∧ Hs h' (refS m reg (mvRw k home reg rows) :: rs)) h := by
  obtain ⟨s, h1, h2, H⟩ := Hs.refS.1 H
  refine (s105 hr hk hl h2 h1 hc H).mono fun v h' ⟨e, s', H'⟩ => ⟨e, Hs.refS.2 ⟨s', ?_, ?_, H'⟩⟩
  · unfold mvRw; split
    · exact h1
    · split
      · exact h1
      · exact gin_rise h1
  · intro x hx
    unfold mvRw at hx
    split at hx
    · exact h2 x hx
    · split at hx
      · exact h2 x hx
      · rcases gin_mem hx with rfl | hx
        · exact getRw_one h2
        · exact h2 x hx
end Go.Proofs.YtalknmdbamlabaaGreat.Q
