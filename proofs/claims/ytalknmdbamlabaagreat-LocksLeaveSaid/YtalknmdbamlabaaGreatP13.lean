/- Maps: delete, iteration. Conditions: none. -/
import Derived.Test.YtalknmdbamlabaaGreatP12
namespace Go.Proofs.YtalknmdbamlabaaGreat.Q
open Go
open SL (bk bkn mp old it exS puS emS stS)
section
variable {κ : Type} [DecidableEq κ] {P : Program} {h : Hp} {K : Value → A} {rs : List SL}
theorem delM {t kt et u ty : TypeId} {kc : κ → Value} {b : Nat} {l : List (κ × Value)} {k : κ} (T : KeyT P kt kc) (ht : P.underlying t = some (.map kt et))
    (H : Hs h (mpS b kc l :: rs)) (k0 : ∀ h', Hs h' (mpS b kc (mdel k l) :: rs) → K (.tuple #[]) h') : ru P (Builtin.delete_ #[t, u] ty #[.map (some b), kc k]) K h := by
  obtain ⟨bs, c, ⟨hb, hnd, hlt, hk⟩, H⟩ := Hs.mpS.1 H
  intro w hw
  subst hw
  have hm : w.heap[b]? = some (.map (mkE kc l bs).toArray c) := H.mapd
  have hg : (getObj b).run P w = .ok (.map (mkE kc l bs).toArray c) w := by simp [getObj, Sem.run, hm]
  have hset : ∀ o, (setObj b o).run P w = .ok () { w with heap := w.heap.setIfInBounds b o } := fun o => by simp [setObj, Sem.run, hm]
  unfold Builtin.delete_
  simp only [List.size_toArray, List.length_cons, List.length_nil, Nat.reduceAdd, Nat.lt_add_one, getElem?_pos, List.getElem_toArray, List.getElem_cons_zero, Nat.zero_lt_succ, List.getElem_cons_succ, Nat.reduceLT]
  rw [Sem.run_bind, run_und ht]
  simp only [Result.andThen]
  simp only [Sem.run_bind, hg, Result.andThen, T.check, List.toList_toArray, T.find w k l bs hb]
  cases hf : findI k l 0 with
  | none =>
    have hno := findI_none hf
    have hms : mdel k l = l := List.filter_eq_self.2 fun y hy => by simpa using hno y hy
    simp only []
    obtain ⟨H2, hkp⟩ := H.mpSet (es' := mkE kc l bs) (c' := c)
    refine ⟨.tuple #[], { w with heap := w.heap.setIfInBounds b (.map (mkE kc l bs).toArray c) }, ?_, k0 _ ?_, hkp, rfl, rfl, rfl⟩
    · rw [Sem.run_bind, hset]; rfl
    · rw [hms]; exact Hs.mpS.2 ⟨bs, c, ⟨hb, hnd, hlt, hk⟩, H2⟩
  | some x =>
    obtain ⟨j, v'⟩ := x
    obtain ⟨a, x, b', rfl, e, hx, hno⟩ := findI_some hf
    rw [Nat.zero_add] at e
    subst e
    rw [List.map_append, List.map_cons, List.nodup_append] at hk
    have hnb : ∀ y ∈ b', y.1 ≠ k := fun y hy e => (List.nodup_cons.1 hk.2.1).1 (List.mem_map.2 ⟨y, hy, e.trans hx.symm⟩)
    have hms : mdel k (a ++ x :: b') = a ++ b' := by
      unfold mdel
      rw [List.filter_append, List.filter_cons_of_neg (by simpa using hx), List.filter_eq_self.2 fun y hy => by simpa using hno y hy, List.filter_eq_self.2 fun y hy => by simpa using hnb y hy]
    obtain ⟨b1, c1, b2, rfl, hl1⟩ : ∃ b1 c1 b2, bs = b1 ++ c1 :: b2 ∧ b1.length = a.length := by
      have hla : a.length < bs.length := by rw [hb]; simp
      exact ⟨bs.take a.length, bs[a.length], bs.drop (a.length + 1), by
        have := (List.take_append_drop a.length bs).symm
        rwa [List.drop_eq_getElem_cons hla] at this, by rw [List.length_take]; omega⟩
    have eE : mkE kc (a ++ x :: b') (b1 ++ c1 :: b2) = mkE kc a b1 ++ ⟨kc x.1, x.2, c1⟩ :: mkE kc b' b2 := mkE_app kc a (x :: b') b1 (c1 :: b2) hl1
    have eE' : mkE kc (a ++ b') (b1 ++ b2) = mkE kc a b1 ++ mkE kc b' b2 := mkE_app kc a b' b1 b2 hl1
    have hl2 := mkE_len kc a b1 hl1
    obtain ⟨H2, hkp⟩ := H.mpSet (es' := mkE kc a b1 ++ mkE kc b' b2) (c' := c)
    refine ⟨.tuple #[], { w with heap := w.heap.setIfInBounds b (.map (mkE kc a b1 ++ mkE kc b' b2).toArray c) }, ?_, k0 _ ?_, hkp, rfl, rfl, rfl⟩
    · simp only []
      rw [Sem.run_bind, hset]
      have : (mkE kc (a ++ x :: b') (b1 ++ c1 :: b2)).toArray.eraseIdxIfInBounds a.length = (mkE kc a b1 ++ mkE kc b' b2).toArray := by
        rw [eE]
        apply Array.ext'
        simp only [Array.toList_eraseIdxIfInBounds, List.toList_toArray]
        rw [← hl2, List.eraseIdx_append_of_length_le (Nat.le_refl _)]
        simp
      rw [this]; rfl
    · rw [hms]
      rw [List.nodup_append] at hnd
      refine Hs.mpS.2 ⟨b1 ++ b2, c, ⟨?_, ?_, ?_, ?_⟩, by rw [eE']; exact H2⟩
      · simp at hb ⊢; omega
      · rw [List.nodup_append]
        exact ⟨hnd.1, (List.nodup_cons.1 hnd.2.1).2, fun x hx y hy => hnd.2.2 x hx y (List.mem_cons_of_mem _ hy)⟩
      · intro x hx; rcases List.mem_append.1 hx with hx | hx
        · exact hlt x (List.mem_append_left _ hx)
        · exact hlt x (List.mem_append_right _ (List.mem_cons_of_mem _ hx))
      · rw [List.map_append, List.nodup_append]
        exact ⟨hk.1, (List.nodup_cons.1 hk.2.1).2, fun x hx y hy => hk.2.2 x hx y (List.mem_cons_of_mem _ hy)⟩
end
section
variable {κ : Type}
def toE (kc : κ → Value) (y : (κ × Value) × Nat) : MapEntry := ⟨kc y.1.1, y.1.2, y.2⟩
theorem mkE_zip (kc : κ → Value) : ∀ (l : List (κ × Value)) (bs : List Nat), mkE kc l bs = (l.zip bs).map (toE kc)
  | [], _ => by simp [mkE]
  | _ :: _, [] => by simp [mkE]
  | x :: l, b :: bs => by simp only [mkE, List.zip_cons_cons, List.map_cons, mkE_zip kc l bs]; rfl
theorem zip_born : ∀ {l : List (κ × Value)} {bs : List Nat}, bs.Nodup → ∀ {y z : (κ × Value) × Nat}, y ∈ l.zip bs → z ∈ l.zip bs → y.2 = z.2 → y = z
  | [], _, _, _, _, hy, _, _ => by simp at hy
  | _ :: _, [], _, _, _, hy, _, _ => by simp at hy
  | x :: l, b :: bs, hn, y, z, hy, hz, e => by
    obtain ⟨h1, h2⟩ := List.nodup_cons.1 hn
    simp only [List.zip_cons_cons, List.mem_cons] at hy hz
    rcases hy with rfl | hy <;> rcases hz with rfl | hz
    · rfl
    · exact absurd ((show b = z.2 from e) ▸ (List.of_mem_zip hz).2) h1
    · exact absurd ((show y.2 = b from e) ▸ (List.of_mem_zip hy).2) h1
    · exact zip_born h2 hy hz e
theorem zip_key : ∀ {l : List (κ × Value)} {bs : List Nat}, (l.map (·.1)).Nodup → ∀ {y z : (κ × Value) × Nat}, y ∈ l.zip bs → z ∈ l.zip bs → y.1.1 = z.1.1 → y = z
  | [], _, _, _, _, hy, _, _ => by simp at hy
  | _ :: _, [], _, _, _, hy, _, _ => by simp at hy
  | x :: l, b :: bs, hn, y, z, hy, hz, e => by
    rw [List.map_cons] at hn
    obtain ⟨h1, h2⟩ := List.nodup_cons.1 hn
    simp only [List.zip_cons_cons, List.mem_cons] at hy hz
    rcases hy with rfl | hy <;> rcases hz with rfl | hz
    · rfl
    · exact absurd (List.mem_map.2 ⟨_, (List.of_mem_zip hz).1, e.symm⟩) h1
    · exact absurd (List.mem_map.2 ⟨_, (List.of_mem_zip hy).1, e⟩) h1
    · exact zip_key h2 hy hz e
/-- the entries that are left. -/
def lft (l : List (κ × Value)) (bs : List Nat) (seen : Array Nat) : List ((κ × Value) × Nat) := (l.zip bs).filter fun y => !seen.contains y.2
/-- a map under iteration: what is left, and where it stands. -/
def mitS (r b : Nat) (kc : κ → Value) (l rem : List (κ × Value)) (cur : Option (κ × Value)) : SL := exS fun x : List Nat × Nat × Array Nat =>
  puS (x.1.length = l.length ∧ x.1.Nodup ∧ (∀ i ∈ x.1, i < x.2.1) ∧ (l.map (·.1)).Nodup ∧ rem = (lft l x.1 x.2.2).map (·.1) ∧ (∀ y, cur = some y → ∃ s, x.2.2.back? = some s ∧ (y, s) ∈ l.zip x.1))
    (stS (mp b (mkE kc l x.1) x.2.1) (it r b x.2.1 x.2.2 x.2.1))
theorem Hs.mit {h : Hp} {r b : Nat} {kc : κ → Value} {l rem : List (κ × Value)} {cur : Option (κ × Value)} {rs : List SL} : Hs h (mitS r b kc l rem cur :: rs) ↔
    ∃ bs c seen, (bs.length = l.length ∧ bs.Nodup ∧ (∀ i ∈ bs, i < c) ∧ (l.map (·.1)).Nodup ∧ rem = (lft l bs seen).map (·.1) ∧ (∀ y, cur = some y → ∃ s, seen.back? = some s ∧ (y, s) ∈ l.zip bs)) ∧ Hs h (mp b (mkE kc l bs) c :: it r b c seen c :: rs) := by
  constructor
  · intro H
    obtain ⟨⟨bs, c, seen⟩, H⟩ := Hs.ex.1 H
    obtain ⟨h1, H⟩ := Hs.pu.1 H
    exact ⟨bs, c, seen, h1, Hs.st.1 H⟩
  · rintro ⟨bs, c, seen, h1, H⟩
    exact Hs.ex.2 ⟨(bs, c, seen), Hs.pu.2 ⟨h1, Hs.st.2 H⟩⟩
theorem Hs.mitEnd {h : Hp} {r b : Nat} {kc : κ → Value} {l rem : List (κ × Value)} {cur : Option (κ × Value)} {rs : List SL} (H : Hs h (mitS r b kc l rem cur :: rs)) : Hs h (Q.mpS b kc l :: rs) := by
  obtain ⟨bs, c, seen, ⟨h1, h2, h3, h4, _⟩, H⟩ := Hs.mit.1 H
  exact Hs.mpS.2 ⟨bs, c, ⟨h1, h2, h3, h4⟩, H.p1.drop⟩
variable {P : Program} {h : Hp} {K : Value → A} {rs : List SL}
theorem rangeX {t kt et : TypeId} {kc : κ → Value} {b : Nat} {l : List (κ × Value)} (ht : P.underlying t = some (.map kt et)) (H : Hs h (mpS b kc l :: rs)) (k0 : ∀ r h', Sx h.size h h' ∧ r = h.size → Hs h' (mitS r b kc l l none :: rs) → K (pt r 0) h') :
    ru P (Instr.range t (.map (some b))) K h := by
  obtain ⟨bs, c, ⟨hb, hnd, hlt, hk⟩, H⟩ := Hs.mpS.1 H
  intro w hw
  subst hw
  have hm : w.heap[b]? = some (.map (mkE kc l bs).toArray c) := H.mapd
  have hg : (getObj b).run P w = .ok (.map (mkE kc l bs).toArray c) w := by simp [getObj, Sem.run, hm]
  refine ⟨pt w.heap.size 0, { w with heap := w.heap.push (.mapIter (some b) c #[] c) }, ?_, k0 _ _ ⟨⟨by simp, fun b hb => .inl (by rw [Array.getElem?_push, if_neg (by omega)])⟩, rfl⟩ (Hs.mit.2 ⟨bs, c, #[], ⟨hb, hnd, hlt, hk, ?_, by simp⟩, ?_⟩), Keep_push _ _, rfl, rfl, rfl⟩
  · unfold Instr.range
    rw [Sem.run_bind, run_und ht]
    simp only [Result.andThen, Sem.run_bind, hg, Sem.run_pure]
    rfl
  · unfold lft
    rw [List.filter_eq_self.2 (by simp)]
    have : ∀ (l : List (κ × Value)) (bs : List Nat), bs.length = l.length → (l.zip bs).map (·.1) = l := by
      intro l
      induction l with
      | nil => simp
      | cons x l ih =>
        intro bs hb
        cases bs with
        | nil => simp at hb
        | cons b bs => simp only [List.zip_cons_cons, List.map_cons, ih bs (by simpa using hb)]
    exact (this l bs hb).symm
  · refine Hs.p1 ?_
    obtain ⟨F, H⟩ := H
    have hext : ∀ x, x < w.heap.size → (w.heap.push (.mapIter (some b) c #[] c))[x]? = w.heap[x]? := fun x hx => by rw [Array.getElem?_push, if_neg (by omega)]
    refine ⟨fun x => x = w.heap.size ∨ F x, (· = w.heap.size), F, fun x => Iff.rfl, fun x h1 h2 => ?_, ⟨fun x => Iff.rfl, ?_⟩, (sep (mp b (mkE kc l bs) c :: rs)).loc _ _ F H (by simp) fun x hx => (hext x ((sep (mp b (mkE kc l bs) c :: rs)).lt _ F H x hx))⟩
    · have := (sep (mp b (mkE kc l bs) c :: rs)).lt _ F H x h2
      rw [h1] at this; exact Nat.lt_irrefl _ this
    · show (w.heap.push (.mapIter (some b) c #[] c))[w.heap.size]? = some _
      simp
theorem rangeS {t kt et : TypeId} {kc : κ → Value} {b : Nat} {l : List (κ × Value)} (ht : P.underlying t = some (.map kt et)) (H : Hs h (mpS b kc l :: rs)) (k0 : ∀ r h', Hs h' (mitS r b kc l l none :: rs) → K (pt r 0) h') :
    ru P (Instr.range t (.map (some b))) K h := rangeX ht H fun r h' _ => k0 r h'
theorem entryS {r b : Nat} {kc : κ → Value} {l rem : List (κ × Value)} {y : κ × Value} (H : Hs h (mitS r b kc l rem (some y) :: rs)) (k0 : K (.tuple #[kc y.1, y.2]) h) : qt P (Instr.entry (pt r 0)) K h := by
  obtain ⟨bs, c, seen, ⟨hb, hnd, hlt, hk, _, hc⟩, H⟩ := Hs.mit.1 H
  obtain ⟨s, hs, hys⟩ := hc y rfl
  refine ⟨_, fun w hw => ?_, k0⟩
  subst hw
  have hm : w.heap[b]? = some (.map (mkE kc l bs).toArray c) := H.mapd
  have hg : (getObj b).run P w = .ok (.map (mkE kc l bs).toArray c) w := by simp [getObj, Sem.run, hm]
  have hi : w.heap[r]? = some (.mapIter (some b) c seen c) := by
    obtain ⟨F, F1, F2, e, d, H1, H2⟩ := H.p1; exact H1.2
  have hgi : (getObj r).run P w = .ok (.mapIter (some b) c seen c) w := by simp [getObj, Sem.run, hi]
  have hfind : (mkE kc l bs).toArray.find? (fun e => e.born == s) = some (toE kc (y, s)) := by
    rw [mkE_zip, List.find?_toArray, List.find?_map]
    have : (l.zip bs).find? ((fun e => e.born == s) ∘ toE kc) = some (y, s) := by
      cases hf : (l.zip bs).find? ((fun e => e.born == s) ∘ toE kc) with
      | none => have := List.find?_eq_none.1 hf _ hys; simp [toE] at this
      | some z =>
        have h1 := List.find?_some hf
        have h2 := List.mem_of_find?_eq_some hf
        have h3 : z.2 = s := by simpa [toE] using h1
        rw [zip_born hnd h2 hys h3]
    rw [this]; rfl
  unfold Instr.entry
  simp only [Sem.run_bind, hgi, Result.andThen, hs, hg, bne_self_eq_false, Bool.false_eq_true, if_false, hfind]
  rfl
theorem choose_run (w : World) (n : Nat) (hn : 0 < n) : ∃ i d, i < n ∧ (choose (.mapNext n)).run P w = .ok i { w with drawn := d } := by
  by_cases h1 : n ≤ 1
  · refine ⟨0, w.drawn, hn, ?_⟩
    have hf : (Question.mapNext n).forced = true := by simp [Question.forced, h1]
    simp [choose, Sem.run, hf]
  · refine ⟨w.tape w.drawn (.mapNext n) % n, w.drawn + 1, ?_, ?_⟩
    · exact Nat.mod_lt _ hn
    · have hf : (Question.mapNext n).forced = false := by simp [Question.forced]; omega
      simp [choose, Sem.run, hf, Question.cut]
theorem nextX [DecidableEq κ] {ty r b : Nat} {kc : κ → Value} {l rem : List (κ × Value)} {cur : Option (κ × Value)} (H : Hs h (mitS r b kc l rem cur :: rs))
    (hend : rem = [] → Hs h (mitS r b kc l rem cur :: rs) → K (.tuple #[.bool false]) h)
    (hstep : ∀ y ∈ rem, ∀ h', Sx r h h' → Hs h' (mitS r b kc l (mdel y.1 rem) (some y) :: rs) → K (.tuple #[.bool true, kc y.1, y.2]) h') : ru P (Instr.next (pt r 0) false ty) K h := by
  have H0 := H
  obtain ⟨bs, c, seen, ⟨hb, hnd, hlt, hk, hrem, hc⟩, H⟩ := Hs.mit.1 H
  intro w hw
  subst hw
  have hm : w.heap[b]? = some (.map (mkE kc l bs).toArray c) := H.mapd
  have hg : (getObj b).run P w = .ok (.map (mkE kc l bs).toArray c) w := by simp [getObj, Sem.run, hm]
  have hi : w.heap[r]? = some (.mapIter (some b) c seen c) := by
    obtain ⟨F, F1, F2, e, d, H1, H2⟩ := H.p1; exact H1.2
  have hgi : (getObj r).run P w = .ok (.mapIter (some b) c seen c) w := by simp [getObj, Sem.run, hi]
  have hborn : ∀ e ∈ mkE kc l bs, e.born < c := by
    intro e he
    rw [mkE_zip] at he
    obtain ⟨y, hy, rfl⟩ := List.mem_map.1 he
    exact hlt y.2 (List.of_mem_zip hy).2
  have hcond : (!seen.isEmpty && !(mkE kc l bs).toArray.isEmpty && (mkE kc l bs).toArray.all fun e => decide (e.born ≥ c)) = false := by
    cases hE : mkE kc l bs with
    | nil => simp
    | cons e es =>
      have := hborn e (by rw [hE]; exact List.mem_cons_self ..)
      have h2 : decide (e.born ≥ c) = false := by simp; exact this
      simp [h2]
  have hleft : ((mkE kc l bs).toArray.filter fun e => !seen.contains e.born) = ((lft l bs seen).map (toE kc)).toArray := by
    rw [mkE_zip]
    simp only [List.filter_toArray, List.filter_map]
    rfl
  have hold : (((lft l bs seen).map (toE kc)).toArray.filter fun e => decide (e.born < c)) = ((lft l bs seen).map (toE kc)).toArray := by
    simp only [List.filter_toArray]
    rw [List.filter_eq_self.2]
    intro e he
    obtain ⟨y, hy, rfl⟩ := List.mem_map.1 he
    have := hlt y.2 (List.of_mem_zip (List.mem_filter.1 hy).1).2
    simp [toE, this]
  have hnew : (((lft l bs seen).map (toE kc)).toArray.filter fun e => decide (e.born ≥ c)) = #[] := by
    simp only [List.filter_toArray]
    rw [List.filter_eq_nil_iff.2]
    intro e he
    obtain ⟨y, hy, rfl⟩ := List.mem_map.1 he
    have := hlt y.2 (List.of_mem_zip (List.mem_filter.1 hy).1).2
    simp [toE]; omega
  have hput : ∀ (o : Obj), r ≠ b → isK (.mapIter (some b) c seen c) = false → Keep w.heap (w.heap.setIfInBounds r o) := by
    intro o _ _
    refine ⟨by simp, fun x o' hx ho => ?_⟩
    by_cases e : x = r
    · subst e; rw [hi] at hx; cases hx; simp [isK] at ho
    · rw [Array.getElem?_setIfInBounds]; simp [Ne.symm e, hx]
  have hrun : ∀ (cand : Array (Option MapEntry)), cand = (if ((lft l bs seen).map (toE kc)).toArray.isEmpty then #[none] else #[]) ++ (((lft l bs seen).map (toE kc)).toArray ++ #[]).map some →
      ∀ (w2 : World) (i : Nat) (v : Value) (w3 : World), (choose (.mapNext cand.size)).run P w = .ok i w2 →
      ((match cand[i]? with
        | some (some e) => do
          setObj r (.mapIter (some b) c (seen.push e.born) c)
          pure (.tuple #[.bool true, e.key, e.val])
        | some none => pure (.tuple #[.bool false])
        | none => stuck "Next: no such candidate" : Sem Value).run P w2 = .ok v w3) → (Instr.next (pt r 0) false ty).run P w = .ok v w3 := by
    rintro cand rfl w2 i v w3 h1 h2
    unfold Instr.next
    simp only [Sem.run_bind, hgi, Result.andThen, hg, hcond, Bool.false_eq_true, if_false, hleft, hold, hnew, h1]
    exact h2
  cases hL : lft l bs seen with
  | nil =>
    obtain ⟨i, d, hi1, hch⟩ := choose_run (P := P) w 1 (by omega)
    have hi0 : i = 0 := by omega
    subst hi0
    refine ⟨.tuple #[.bool false], { w with drawn := d }, ?_, hend (by rw [hrem, hL]; rfl) H0, KW.refl _⟩
    exact hrun #[none] (by rw [hL]; simp) _ 0 _ _ hch rfl
  | cons y0 L =>
    obtain ⟨i, d, hi1, hch⟩ := choose_run (P := P) w (lft l bs seen).length (by rw [hL]; simp)
    have hmem : (lft l bs seen)[i] ∈ lft l bs seen := List.getElem_mem hi1
    generalize hy : (lft l bs seen)[i] = y at hmem
    have hzip : y ∈ l.zip bs := (List.mem_filter.1 hmem).1
    have hrb : r ≠ b := by
      obtain ⟨F, F1, F2, e, d, H1, F3, F4, e', d', H3, H4⟩ := H
      rintro rfl
      exact d r ((H1.1 r).2 rfl) ((e' r).2 (.inl ((H3.1 r).2 rfl)))
    refine ⟨.tuple #[.bool true, kc y.1.1, y.1.2], { w with drawn := d, heap := w.heap.setIfInBounds r (.mapIter (some b) c (seen.push y.2) c) }, ?_, hstep y.1 ?_ _ ?_ (Hs.mit.2 ⟨bs, c, seen.push y.2, ⟨hb, hnd, hlt, hk, ?_, ?_⟩, ?_⟩), hput _ hrb rfl, rfl, rfl, rfl⟩
    · refine hrun (((lft l bs seen).map (toE kc)).map some).toArray (by rw [hL]; simp) { w with drawn := d } i _ _ ?_ ?_
      · simpa using hch
      · have hget : (((lft l bs seen).map (toE kc)).map some).toArray[i]? = some (some (toE kc y)) := by
          simp [List.getElem?_eq_getElem hi1, hy]
        simp only [hget, Sem.run_bind]
        have hset : (setObj r (.mapIter (some b) c (seen.push (toE kc y).born) c)).run P { w with drawn := d } = .ok () { w with drawn := d, heap := w.heap.setIfInBounds r (.mapIter (some b) c (seen.push y.2) c) } := by
          simp [setObj, Sem.run, hi, toE]
        rw [hset]; rfl
    · rw [hrem]; exact List.mem_map_of_mem hmem
    · refine ⟨by simp, fun x _ => ?_⟩
      by_cases hx : x = r
      · subst hx
        exact .inr ⟨Nat.le_refl _, _, .mapIter (some b) c (seen.push y.2) c, hi, by show (w.heap.setIfInBounds x _)[x]? = _; simp [lt_of_get hi], rfl, rfl⟩
      · exact .inl (by show (w.heap.setIfInBounds r _)[x]? = _; rw [Array.getElem?_setIfInBounds]; simp [Ne.symm hx])
    · rw [hrem]
      unfold mdel lft
      rw [List.filter_map, List.filter_filter]
      congr 1
      apply List.filter_congr
      intro z hz
      by_cases he : z.1.1 = y.1.1
      · have := zip_key hk hz hzip he
        subst this
        simp
      · have : z.2 ≠ y.2 := fun e => he (by rw [zip_born hnd hz hzip e])
        simp [he, this]
    · intro y' hy'
      cases hy'
      exact ⟨y.2, by simp, hzip⟩
    · have hch : Ch (· = r) w.heap (w.heap.setIfInBounds r (.mapIter (some b) c (seen.push y.2) c)) := ⟨by simp, fun x _ hx => by rw [Array.getElem?_setIfInBounds]; simp [Ne.symm hx]⟩
      have hlr : r < w.heap.size := lt_of_get hi
      exact (H.p1.ch (r' := it r b c (seen.push y.2) c) hch fun F hF => ⟨fun x hx => (hF.1 x).2 hx, hF.1, by simp [hlr]⟩).p1
theorem nextS [DecidableEq κ] {ty r b : Nat} {kc : κ → Value} {l rem : List (κ × Value)} {cur : Option (κ × Value)} (H : Hs h (mitS r b kc l rem cur :: rs))
    (hend : rem = [] → ∀ h', Hs h' (mitS r b kc l rem cur :: rs) → K (.tuple #[.bool false]) h')
    (hstep : ∀ y ∈ rem, ∀ h', Hs h' (mitS r b kc l (mdel y.1 rem) (some y) :: rs) → K (.tuple #[.bool true, kc y.1, y.2]) h') : ru P (Instr.next (pt r 0) false ty) K h :=
  nextX H (fun hr => hend hr h) fun y hy h' _ => hstep y hy h'
end
end Go.Proofs.YtalknmdbamlabaaGreat.Q
