/- Slices that own their memory. Conditions: none. -/
import Derived.Test.YtalknmdbamlabaaGreatSep
namespace Go.Proofs.YtalknmdbamlabaaGreat.Q
open Go
open SL (bk bkn mp old exS puS emS stS)
structure VOk (z : Nat) (es : List (List Value)) (c : Nat) (tl : List Value) : Prop where
  lens : ∀ e ∈ es, e.length = z
  ones : ∀ e ∈ es, ∀ u ∈ e, oneC u = true
  cap : es.length ≤ c
  room : c * z ≤ es.length * z + tl.length
/-- a slice of elements of z cells, with its own memory. -/
def vec (z : Nat) (s : Value) (es : List (List Value)) : SL := exS fun p : Option (Nat × Nat × List Value) =>
  match p with
  | none => puS (s = nilS ∧ es = []) emS
  | some (b, c, tl) => puS (s = sl b 0 es.length c ∧ VOk z es c tl) (bk b (es.flatten ++ tl))
theorem Hs.vec {h : Hp} {z : Nat} {s : Value} {es : List (List Value)} {rs : List SL} (H : Hs h (vec z s es :: rs)) :
    (s = nilS ∧ es = [] ∧ Hs h rs) ∨ ∃ b c tl, s = sl b 0 es.length c ∧ VOk z es c tl ∧ Hs h (bk b (es.flatten ++ tl) :: rs) := by
  obtain ⟨p, H⟩ := Hs.ex.1 H
  rcases p with _ | ⟨b, c, tl⟩
  · obtain ⟨⟨h1, h2⟩, H⟩ := Hs.pu.1 H; exact .inl ⟨h1, h2, Hs.em.1 H⟩
  · obtain ⟨⟨h1, h2⟩, H⟩ := Hs.pu.1 H; exact .inr ⟨b, c, tl, h1, h2, H⟩
theorem Hs.vec0 {h : Hp} {z : Nat} {rs : List SL} (H : Hs h rs) : Hs h (Q.vec z nilS [] :: rs) := Hs.ex.2 ⟨none, Hs.pu.2 ⟨⟨rfl, rfl⟩, Hs.em.2 H⟩⟩
theorem Hs.vec1 {h : Hp} {z b c : Nat} {es : List (List Value)} {tl : List Value} {rs : List SL} (hv : VOk z es c tl) (H : Hs h (bk b (es.flatten ++ tl) :: rs)) : Hs h (Q.vec z (sl b 0 es.length c) es :: rs) :=
  Hs.ex.2 ⟨some (b, c, tl), Hs.pu.2 ⟨⟨rfl, hv⟩, H⟩⟩
theorem flat_len {z : Nat} : ∀ {es : List (List Value)}, (∀ e ∈ es, e.length = z) → es.flatten.length = es.length * z
  | [], _ => by simp
  | e :: es, h => by
    simp only [List.flatten_cons, List.length_append, List.length_cons]
    rw [h e (List.mem_cons_self ..), flat_len fun e' he => h e' (List.mem_cons_of_mem _ he), Nat.add_mul, Nat.one_mul, Nat.add_comm]
theorem flat_drop {z : Nat} : ∀ {es : List (List Value)} (i : Nat), (∀ e ∈ es, e.length = z) → es.flatten.drop (i * z) = (es.drop i).flatten
  | [], i, _ => by simp
  | e :: es, 0, _ => by simp
  | e :: es, i + 1, h => by
    have he := h e (List.mem_cons_self ..)
    rw [List.flatten_cons, List.drop_succ_cons, Nat.add_mul, Nat.one_mul, Nat.add_comm, ← List.drop_drop]
    rw [← he, List.drop_left, he]
    exact flat_drop i fun e' h' => h e' (List.mem_cons_of_mem _ h')
theorem flat_take {z : Nat} : ∀ {es : List (List Value)} (i : Nat), (∀ e ∈ es, e.length = z) → es.flatten.take (i * z) = (es.take i).flatten
  | [], i, _ => by simp
  | e :: es, 0, _ => by simp
  | e :: es, i + 1, h => by
    have he := h e (List.mem_cons_self ..)
    rw [List.flatten_cons, List.take_succ_cons, Nat.add_mul, Nat.one_mul, Nat.add_comm, ← he, List.take_length_add_append, he, List.flatten_cons]
    rw [flat_take i fun e' h' => h e' (List.mem_cons_of_mem _ h')]
/-- what may be read there now. -/
def Rd (h : Hp) (b o : Nat) (vs : List Value) : Prop := ∃ cs, BlR h b cs ∧ o + vs.length ≤ cs.length ∧ (cs.drop o).take vs.length = vs
theorem Rd.sub {h : Hp} {b o : Nat} {vs : List Value} (H : Rd h b o vs) (i n : Nat) (hn : i + n ≤ vs.length) : Rd h b (o + i) ((vs.drop i).take n) := by
  obtain ⟨cs, h1, h2, h3⟩ := H
  have hl : ((vs.drop i).take n).length = n := by simp; omega
  refine ⟨cs, h1, by rw [hl]; omega, ?_⟩
  rw [hl]
  conv => rhs; rw [← h3]
  rw [List.drop_take, List.drop_drop, List.take_take]
  congr 1; omega
theorem Blk.rd {h : Hp} {b : Nat} {cs : List Value} (H : Blk h b cs) : Rd h b 0 cs := ⟨cs, H.r, by omega, by simp⟩
theorem Blk.rdAt {h : Hp} {b : Nat} {cs : List Value} (H : Blk h b cs) (o : Nat) (vs : List Value) (h1 : o + vs.length ≤ cs.length) (h2 : (cs.drop o).take vs.length = vs) : Rd h b o vs := ⟨cs, H.r, h1, h2⟩
section
variable {h : Hp} {K : Value → A} {X Y : A} {rs : List SL}
theorem ldnR {b o n : Nat} {vs : List Value} (H : Rd h b o vs) (hn : n = vs.length) (k : K (.agg vs.toArray) h) : ldn n (pt b o) K h := by
  obtain ⟨cs, h1, h2, h3⟩ := H
  subst hn; exact ldn_r h1 vs h2 h3 k
theorem ld1R {b o : Nat} {v : Value} {vs : List Value} (H : Rd h b o (v :: vs)) (k : K v h) : ld1 (pt b o) K h := by
  obtain ⟨cs, h1, h2, h3⟩ := H
  refine ld1_r h1 v ?_ k
  have := congrArg (fun l => l[0]?) h3
  simp only [List.length_cons] at this
  rw [List.getElem?_take, if_pos (by omega), List.getElem?_drop] at this
  simpa using this
theorem Hs.vecRd {z : Nat} {s : Value} {es : List (List Value)} (H : Hs h (Q.vec z s es :: rs)) {i : Nat} (hi : i < es.length) : ∃ b c, s = sl b 0 es.length c ∧ Rd h b (i * z) es[i] := by
  rcases H.vec with ⟨_, rfl, _⟩ | ⟨b, c, tl, h1, h2, h3⟩
  · simp at hi
  · have hl := h2.lens es[i] (List.getElem_mem hi)
    have hf := flat_len h2.lens
    have hle : i * z + z ≤ es.length * z := by rw [← Nat.succ_mul]; exact Nat.mul_le_mul_right z hi
    refine ⟨b, c, h1, h3.blk.rdAt (i * z) es[i] ?_ ?_⟩
    · rw [hl, List.length_append, hf]; omega
    · rw [hl, List.drop_append_of_le_length (by rw [hf]; omega), flat_drop i h2.lens]
      rw [List.drop_eq_getElem_cons hi, List.flatten_cons, List.append_assoc]
      conv => lhs; rw [← hl]
      rw [List.take_left]
theorem lnV {z : Nat} {s : Value} {es : List (List Value)} (H : Hs h (vec z s es :: rs)) (k : K (vi es.length) h) : lnS s K h := by
  rcases H.vec with ⟨rfl, rfl, _⟩ | ⟨b, c, tl, rfl, h2, h3⟩
  · exact lnS_s k
  · exact lnS_s k
theorem ixV {z : Nat} {s : Value} {es : List (List Value)} {kd : IntKind} {n : Int} (H : Hs h (vec z s es :: rs)) (i : Nat) (hn : n = i) (hi : i < es.length) (k : ∀ b, Rd h b (i * z) es[i] → K (pt b (i * z)) h) : ixs z s (.int kd n) K h := by
  obtain ⟨b, c, rfl, hr⟩ := H.vecRd hi
  subst hn
  refine ixs_s (by omega) (by omega) ?_
  simpa using k b hr
/-- for an element that will be written. -/
theorem Hs.vecW {z : Nat} {s : Value} {es : List (List Value)} (H : Hs h (Q.vec z s es :: rs)) {i : Nat} (hi : i < es.length) :
    ∃ b c tl, s = sl b 0 es.length c ∧ VOk z es c tl ∧ Hs h (bk b (es.flatten ++ tl) :: rs) := by
  rcases H.vec with ⟨_, rfl, _⟩ | H
  · simp at hi
  · exact H
theorem splice_flat {z : Nat} {es : List (List Value)} {c : Nat} {tl vs : List Value} (hv : VOk z es c tl) (i j : Nat) (hi : i < es.length) (hj : j + vs.length ≤ z) :
    splice (es.flatten ++ tl) (i * z + j) vs = (es.set i (splice es[i] j vs)).flatten ++ tl := by
  have hl := hv.lens es[i] (List.getElem_mem hi)
  have hf := flat_len hv.lens
  have hle : i * z + z ≤ es.length * z := by rw [← Nat.succ_mul]; exact Nat.mul_le_mul_right z hi
  have e1 : es.flatten = (es.take i).flatten ++ (es[i] ++ (es.drop (i + 1)).flatten) := by
    have e0 := (congrArg List.flatten (List.take_append_drop i es)).symm
    rw [List.drop_eq_getElem_cons hi, List.flatten_append, List.flatten_cons] at e0
    exact e0
  have e2 : (es.take i).flatten.length = i * z := by
    rw [← flat_take i hv.lens, List.length_take, hf]; omega
  rw [List.set_eq_take_append_cons_drop, if_pos hi]
  simp only [List.flatten_append, List.flatten_cons]
  unfold splice
  rw [e1]
  rw [← e2]
  simp only [List.append_assoc]
  rw [List.take_length_add_append, Nat.add_assoc, List.drop_length_add_append]
  rw [List.take_append_of_le_length (by omega), List.drop_append_of_le_length (by omega)]
  simp
theorem VOk.set {z : Nat} {es : List (List Value)} {c : Nat} {tl : List Value} (hv : VOk z es c tl) (i : Nat) (e : List Value) (hl : e.length = z) (h1 : ∀ u ∈ e, oneC u = true) : VOk z (es.set i e) c tl :=
  ⟨fun e' h' => by rcases List.mem_or_eq_of_mem_set h' with h' | rfl; exact hv.lens _ h'; exact hl, fun e' h' => by rcases List.mem_or_eq_of_mem_set h' with h' | rfl; exact hv.ones _ h'; exact h1,
   by simpa using hv.cap, by simpa using hv.room⟩
/-- an element is written, or a part of it. -/
theorem stV {z b c n i j : Nat} {es : List (List Value)} {tl : List Value} {v : Value} (hv : VOk z es c tl) (H : Hs h (bk b (es.flatten ++ tl) :: rs)) (hi : i < es.length) (hn : v.cells.size = n) (hj : j + n ≤ z)
    (h1 : ∀ u ∈ v.cells.toList, oneC u = true) (k : ∀ h', Hs h' (vec z (sl b 0 es.length c) (es.set i (splice es[i] j v.cells.toList)) :: rs) → X h') : st n (pt b (i * z + j)) v X h := by
  have hl := hv.lens es[i] (List.getElem_mem hi)
  have hf := flat_len hv.lens
  have hle : i * z + z ≤ es.length * z := by rw [← Nat.succ_mul]; exact Nat.mul_le_mul_right z hi
  have hn' : v.cells.toList.length = n := by simpa using hn
  refine stS_ H hn (by rw [List.length_append, hf]; omega) h1 fun h' H' => k h' ?_
  rw [splice_flat hv i j hi (by omega)] at H'
  have hls : (splice es[i] j v.cells.toList).length = z := by rw [splice_len (by omega), hl]
  have := Hs.vec1 (hv.set i (splice es[i] j v.cells.toList) hls ?_) H'
  · simpa using this
  · intro u hu
    unfold splice at hu
    simp only [List.mem_append] at hu
    rcases hu with (hu | hu) | hu
    · exact hv.ones _ (List.getElem_mem hi) _ (List.mem_of_mem_take hu)
    · exact h1 u hu
    · exact hv.ones _ (List.getElem_mem hi) _ (List.mem_of_mem_drop hu)
end
end Go.Proofs.YtalknmdbamlabaaGreat.Q
