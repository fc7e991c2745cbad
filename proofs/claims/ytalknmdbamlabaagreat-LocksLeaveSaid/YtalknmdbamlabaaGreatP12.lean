/- Maps. Conditions: none. -/
import Derived.Test.YtalknmdbamlabaaGreatP11
namespace Go.Proofs.YtalknmdbamlabaaGreat.Q
open Go
open SL (bk bkn mp old it exS puS emS stS)
section
variable {κ : Type}
/-- the entries of a map. -/
def mkE (kc : κ → Value) : List (κ × Value) → List Nat → List MapEntry
  | x :: l, b :: bs => ⟨kc x.1, x.2, b⟩ :: mkE kc l bs
  | _, _ => []
theorem mkE_app (kc : κ → Value) : ∀ (a b : List (κ × Value)) (bs cs : List Nat), bs.length = a.length → mkE kc (a ++ b) (bs ++ cs) = mkE kc a bs ++ mkE kc b cs
  | [], b, [], cs, _ => rfl
  | x :: a, b, c :: bs, cs, h => by simp only [List.cons_append, mkE]; rw [mkE_app kc a b bs cs (by simpa using h)]
  | [], _, _ :: _, _, h => by simp at h
  | _ :: _, _, [], _, h => by simp at h
theorem mkE_len (kc : κ → Value) : ∀ (a : List (κ × Value)) (bs : List Nat), bs.length = a.length → (mkE kc a bs).length = a.length
  | [], [], _ => rfl
  | x :: a, c :: bs, h => by simp only [mkE, List.length_cons]; rw [mkE_len kc a bs (by simpa using h)]
  | [], _ :: _, h => by simp at h
  | _ :: _, [], h => by simp at h
end
section
variable {κ : Type} [DecidableEq κ]
def findI (k : κ) : List (κ × Value) → Nat → Option (Nat × Value)
  | [], _ => none
  | x :: l, i => if k = x.1 then some (i, x.2) else findI k l (i + 1)
structure KeyT (P : Program) (kt : TypeId) (kc : κ → Value) : Prop where
  find : ∀ (w : World) (k : κ) (l : List (κ × Value)) (bs : List Nat), bs.length = l.length → (Instr.findKey kt (kc k) (mkE kc l bs)).run P w = .ok (findI k l 0) w
  check : ∀ (w : World) (k : κ) (b : Bool), (Instr.checkKey b 10000 kt (kc k)).run P w = .ok () w
  same : ∀ k, Instr.sameBits 10000 (kc k) (kc k) = true
end
theorem keyStr : KeyT Tryz.prog 9 Value.string where
  find := by
    intro w k l bs hb
    have key : ∀ (l : List (ByteArray × Value)) (bs : List Nat) (i : Nat), bs.length = l.length → Instr.findNow .string (.string k) (mkE Value.string l bs) i = some (findI k l i) := by
      intro l
      induction l with
      | nil => intro bs i hb; cases bs <;> simp [mkE, Instr.findNow, findI]
      | cons x l ih =>
        intro bs i hb
        cases bs with
        | nil => simp at hb
        | cons b bs =>
          simp only [mkE, Instr.findNow, Instr.sameNow, findI]
          have e : (k == x.1) = decide (k = x.1) := by rw [beq_toListBytes, toList_beq]
          rw [e]
          by_cases hk : k = x.1
          · rw [decide_eq_true hk, if_pos hk]
          · rw [decide_eq_false hk, if_neg hk]; exact ih bs (i + 1) (by simpa using hb)
    unfold Instr.findKey
    rw [Sem.run_bind, run_und und9]
    simp only [Result.andThen, key l bs 0 hb, Sem.run_pure]
  check := by
    intro w k b
    show (Instr.checkKey b (9999 + 1) 9 (.string k)).run Tryz.prog w = _
    generalize 9999 = n
    unfold Instr.checkKey
    rw [Sem.run_bind, run_und und9]; rfl
  same := by
    intro k
    show (k == k) = true
    rw [beq_toListBytes]; simp
theorem chk1 {P : Program} {w : World} {b : Bool} {n : Nat} {t : TypeId} {k : IntKind} {v : Value} (h : P.underlying t = some (.int k)) : (Instr.checkKey b (n + 1) t v).run P w = .ok () w := by
  unfold Instr.checkKey
  rw [Sem.run_bind, run_und h]; rfl
/-- a struct's fields, one behind the other. -/
theorem chkF {P : Program} {w : World} {b : Bool} {n : Nat} {cs : Array Value} : ∀ (fs : List Field), (∀ f ∈ fs, f.name ≠ "_" → ∃ v, (part f.type cs f.offset).run P w = .ok v w ∧ (Instr.checkKey b n f.type v).run P w = .ok () w) →
    (forIn fs PUnit.unit fun f r => do
      if f.name ≠ "_" then Instr.checkKey b n f.type (← part f.type cs f.offset)
      pure (ForInStep.yield PUnit.unit) : Sem PUnit).run P w = .ok () w
  | [], _ => rfl
  | f :: fs, h => by
    have ih := chkF fs fun g hg => h g (List.mem_cons_of_mem _ hg)
    have hf := h f (List.mem_cons_self ..)
    simp only [List.forIn_cons, Sem.run_bind]
    by_cases hn : f.name ≠ "_"
    · obtain ⟨v, h1, h2⟩ := hf hn
      simp only [if_pos hn, Sem.run_bind, h1, h2, Result.andThen, Sem.run_pure]
      exact ih
    · simp only [if_neg hn, Sem.run_bind, Result.andThen, Sem.run_pure]
      exact ih
theorem chkS {P : Program} {w : World} {b : Bool} {n : Nat} {t : TypeId} {cs : Array Value} (h : P.underlying t = some (.struct (P.fieldsOf t))) (hf : ∀ f ∈ (P.fieldsOf t).toList, f.name ≠ "_" → ∃ v, (part f.type cs f.offset).run P w = .ok v w ∧ (Instr.checkKey b n f.type v).run P w = .ok () w) :
    (Instr.checkKey b (n + 1) t (.agg cs)).run P w = .ok () w := by
  have := chkF (P := P) (w := w) (b := b) (n := n) (cs := cs) _ hf
  rw [Array.forIn_toList] at this
  rw [Instr.checkKey, Sem.run_bind, run_und h]
  simp only [Result.andThen]
  rw [Sem.run_bind]
  rw [this]
  rfl
theorem chkId (b : Bool) (n : Nat) (w : World) (a1 a2 a3 : Int) : (Instr.checkKey b (n + 2) 25 (.agg #[vi a1, vu a2, vu a3])).run Tryz.prog w = .ok () w := by
  refine chkS und25 ?_
  rw [fs25]
  intro f hf _
  rcases List.mem_cons.1 hf with rfl | hf
  · exact ⟨vi a1, part1 agg3 rfl, chk1 und3⟩
  rcases List.mem_cons.1 hf with rfl | hf
  · exact ⟨vu a2, part1 agg23 rfl, chk1 und23⟩
  rcases List.mem_cons.1 hf with rfl | hf
  · exact ⟨vu a3, part1 agg23 rfl, chk1 und23⟩
  cases hf
abbrev tgV (t : Tg) : Value := .agg (Tg.c t).toArray
theorem chkTag (b : Bool) (n : Nat) (w : World) (t : Tg) : (Instr.checkKey b (n + 3) 27 (tgV t)).run Tryz.prog w = .ok () w := by
  obtain ⟨i, hi, hs⟩ := inf25
  obtain ⟨a1, a2, a3, a4⟩ := t
  refine chkS und27 ?_
  rw [fs27]
  intro f hf _
  rcases List.mem_cons.1 hf with rfl | hf
  · have p1 := partA (w := w) (cs := (Tg.c (a1, a2, a3, a4)).toArray) (off := 0) agg25 hi
    rw [hs] at p1
    exact ⟨_, p1, chkId b n w a1 a2 a3⟩
  rcases List.mem_cons.1 hf with rfl | hf
  · exact ⟨vi a4, part1 agg3 rfl, chk1 und3⟩
  cases hf
theorem keyTag : KeyT Tryz.prog 27 tgV where
  find := by
    intro w k l bs hb
    have asking : ∀ (l : List (Tg × Value)) (bs : List Nat) (i : Nat), bs.length = l.length → (Instr.findAsking 27 (tgV k) (mkE tgV l bs) i).run Tryz.prog w = .ok (findI k l i) w := by
      intro l
      induction l with
      | nil => intro bs i hb; cases bs <;> rfl
      | cons x l ih =>
        intro bs i hb
        cases bs with
        | nil => simp at hb
        | cons b bs =>
          simp only [mkE, Instr.findAsking, findI, Sem.run_bind]
          have e : (Op.equal 27 (tgV k) (tgV x.1)).run Tryz.prog w = .ok (decide (k = x.1)) w := eqTag 9997 w k x.1
          rw [e]
          simp only [Result.andThen]
          by_cases hk : k = x.1
          · rw [decide_eq_true hk, if_pos hk]; rfl
          · rw [decide_eq_false hk, if_neg hk]; exact ih bs (i + 1) (by simpa using hb)
    unfold Instr.findKey
    rw [Sem.run_bind, run_und und27]
    simp only [Result.andThen]
    cases l with
    | nil => cases bs <;> simp [mkE, Instr.findNow, findI, Sem.run_pure]
    | cons x l =>
      cases bs with
      | nil => simp at hb
      | cons b bs =>
        have := asking (x :: l) (b :: bs) 0 hb
        simpa [mkE, Instr.findNow, Instr.sameNow] using this
  check := fun w k b => chkTag b 9997 w k
  same := by
    intro k
    show ((Tg.c k).toArray.size == (Tg.c k).toArray.size && ((Tg.c k).toArray.toList.zip (Tg.c k).toArray.toList).all fun (x, y) => Instr.sameBits 9999 x y) = true
    simp [Tg.c, Instr.sameBits]
/-! the steps -/
theorem Hs.mpSet {h : Hp} {b c c' : Nat} {es es' : List MapEntry} {rs : List SL} (H : Hs h (mp b es c :: rs)) : Hs (h.setIfInBounds b (.map es'.toArray c')) (mp b es' c' :: rs) ∧ Keep h (h.setIfInBounds b (.map es'.toArray c')) := by
  have hm := H.mapd
  have hlt : b < h.size := lt_of_get hm
  have hsame : (h.setIfInBounds b (.map es'.toArray c'))[b]? = some (.map es'.toArray c') := by simp [hlt]
  have hoth : ∀ x, x ≠ b → (h.setIfInBounds b (.map es'.toArray c'))[x]? = h[x]? := fun x hx => by rw [Array.getElem?_setIfInBounds]; simp [Ne.symm hx]
  have hch : Ch (· = b) h (h.setIfInBounds b (.map es'.toArray c')) := ⟨by simp, fun x _ hx => hoth x hx⟩
  refine ⟨H.ch hch fun F hF => ⟨fun x hx => (hF.1 x).2 hx, hF.1, hsame⟩, by simp, fun x o hx ho => ?_⟩
  by_cases e : x = b
  · subst e; rw [hm] at hx; cases hx; simp [isK] at ho
  · rw [hoth x e]; exact hx
section
variable {κ : Type}
/-- a map of these entries, each key once. -/
def mpS (b : Nat) (kc : κ → Value) (l : List (κ × Value)) : SL := exS fun x : List Nat × Nat =>
  puS (x.1.length = l.length ∧ x.1.Nodup ∧ (∀ i ∈ x.1, i < x.2) ∧ (l.map (·.1)).Nodup) (mp b (mkE kc l x.1) x.2)
theorem Hs.mpS {h : Hp} {b : Nat} {kc : κ → Value} {l : List (κ × Value)} {rs : List SL} : Hs h (Q.mpS b kc l :: rs) ↔
    ∃ bs c, (bs.length = l.length ∧ bs.Nodup ∧ (∀ i ∈ bs, i < c) ∧ (l.map (·.1)).Nodup) ∧ Hs h (mp b (mkE kc l bs) c :: rs) := by
  constructor
  · intro H
    obtain ⟨⟨bs, c⟩, H⟩ := Hs.ex.1 H
    obtain ⟨h1, H⟩ := Hs.pu.1 H
    exact ⟨bs, c, h1, H⟩
  · rintro ⟨bs, c, h1, H⟩
    exact Hs.ex.2 ⟨(bs, c), Hs.pu.2 ⟨h1, H⟩⟩
end
section
variable {κ : Type} [DecidableEq κ]
def mval (k : κ) (l : List (κ × Value)) : Option Value := (l.find? fun x => decide (k = x.1)).map (·.2)
theorem findI_val (k : κ) : ∀ (l : List (κ × Value)) (i : Nat), (findI k l i).map (·.2) = mval k l
  | [], _ => rfl
  | x :: l, i => by
    simp only [findI, mval, List.find?_cons]
    by_cases hk : k = x.1
    · simp [hk]
    · simp only [if_neg hk, decide_eq_false hk]; exact findI_val k l (i + 1)
variable {P : Program} {h : Hp} {K : Value → A} {rs : List SL}
theorem lookS {t kt et : TypeId} {kc : κ → Value} {i : TypeInfo} {zv : Value} {b : Nat} {l : List (κ × Value)} {k : κ} (T : KeyT P kt kc) (ht : P.underlying t = some (.map kt et)) (hi : P.info? et = some i) (hz : i.zero = some zv)
    (H : Hs h (mpS b kc l :: rs)) (k0 : K ((mval k l).getD zv) h) : qt P (Instr.lookup t (.map (some b)) (kc k) false) K h := by
  obtain ⟨bs, c, ⟨hb, _⟩, H⟩ := Hs.mpS.1 H
  refine ⟨(mval k l).getD zv, fun w hw => ?_, k0⟩
  subst hw
  have hm : w.heap[b]? = some (.map (mkE kc l bs).toArray c) := H.mapd
  unfold Instr.lookup
  rw [Sem.run_bind, run_und ht]
  simp only [Result.andThen]
  have hg : (getObj b).run P w = .ok (.map (mkE kc l bs).toArray c) w := by simp [getObj, Sem.run, hm]
  simp only [Sem.run_bind, hg, Result.andThen, Sem.run_pure, T.check, List.toList_toArray, T.find w k l bs hb]
  rw [← findI_val k l 0]
  cases findI k l 0 with
  | none => simp only [Sem.run_bind, run_zv hi hz, Result.andThen, Sem.run_pure]; rfl
  | some x => simp only [Sem.run_bind, Result.andThen, Sem.run_pure]; rfl
theorem findI_some {k : κ} : ∀ {l : List (κ × Value)} {i j : Nat} {v : Value}, findI k l i = some (j, v) → ∃ a x b, l = a ++ x :: b ∧ j = i + a.length ∧ x.1 = k ∧ (∀ y ∈ a, y.1 ≠ k)
  | [], _, _, _, h => by simp [findI] at h
  | x :: l, i, j, v, h => by
    simp only [findI] at h
    by_cases hk : k = x.1
    · rw [if_pos hk] at h; simp at h
      exact ⟨[], x, l, rfl, by simp [h.1], hk.symm, by simp⟩
    · rw [if_neg hk] at h
      obtain ⟨a, y, b, rfl, e, h2, h3⟩ := findI_some h
      refine ⟨x :: a, y, b, rfl, by simp; omega, h2, fun z hz => ?_⟩
      rcases List.mem_cons.1 hz with rfl | hz
      · exact fun e => hk e.symm
      · exact h3 z hz
theorem findI_none {k : κ} : ∀ {l : List (κ × Value)} {i : Nat}, findI k l i = none → ∀ y ∈ l, y.1 ≠ k
  | [], _, _, y, hy => by cases hy
  | x :: l, i, h, y, hy => by
    simp only [findI] at h
    by_cases hk : k = x.1
    · rw [if_pos hk] at h; cases h
    · rw [if_neg hk] at h
      rcases List.mem_cons.1 hy with rfl | hy
      · exact fun e => hk e.symm
      · exact findI_none h y hy
def mset (k : κ) (v : Value) (l : List (κ × Value)) : List (κ × Value) :=
  if k ∈ l.map (·.1) then l.map fun x => if x.1 = k then (k, v) else x else l ++ [(k, v)]
def mdel (k : κ) (l : List (κ × Value)) : List (κ × Value) := l.filter fun x => decide (x.1 ≠ k)
theorem upS {t kt et : TypeId} {kc : κ → Value} {b : Nat} {l : List (κ × Value)} {k : κ} {v : Value} {K : Unit → A} (T : KeyT P kt kc) (ht : P.underlying t = some (.map kt et))
    (H : Hs h (mpS b kc l :: rs)) (k0 : ∀ h', Hs h' (mpS b kc (mset k v l) :: rs) → K () h') : ru P (Instr.mapUpdate t (.map (some b)) (kc k) v) K h := by
  obtain ⟨bs, c, ⟨hb, hnd, hlt, hk⟩, H⟩ := Hs.mpS.1 H
  intro w hw
  subst hw
  have hm : w.heap[b]? = some (.map (mkE kc l bs).toArray c) := H.mapd
  have hg : (getObj b).run P w = .ok (.map (mkE kc l bs).toArray c) w := by simp [getObj, Sem.run, hm]
  have hset : ∀ o, (setObj b o).run P w = .ok () { w with heap := w.heap.setIfInBounds b o } := fun o => by simp [setObj, Sem.run, hm]
  unfold Instr.mapUpdate
  rw [Sem.run_bind, run_und ht]
  simp only [Result.andThen]
  simp only [Sem.run_bind, hg, Result.andThen, T.check, List.toList_toArray, T.find w k l bs hb]
  cases hf : findI k l 0 with
  | none =>
    have hno := findI_none hf
    have hkn : k ∉ l.map (·.1) := by
      intro hm; obtain ⟨x, hx, e⟩ := List.mem_map.1 hm; exact hno x hx e
    simp only []
    obtain ⟨H2, hkp⟩ := H.mpSet (es' := mkE kc l bs ++ [⟨kc k, v, c⟩]) (c' := c + 1)
    refine ⟨(), { w with heap := w.heap.setIfInBounds b (.map (mkE kc l bs ++ [({ key := kc k, val := v, born := c } : MapEntry)]).toArray (c + 1)) }, ?_, k0 _ ?_, hkp, rfl, rfl, rfl⟩
    · rw [hset]; congr 3; simp
    · refine Hs.mpS.2 ⟨bs ++ [c], c + 1, ⟨?_, ?_, ?_, ?_⟩, ?_⟩
      · rw [mset, if_neg hkn]; simp [hb]
      · rw [List.nodup_append]; refine ⟨hnd, by simp, ?_⟩; intro x hx y hy; simp at hy; have := hlt x hx; omega
      · intro x hx; rcases List.mem_append.1 hx with hx | hx
        · have := hlt x hx; omega
        · simp at hx; omega
      · rw [mset, if_neg hkn, List.map_append, List.nodup_append]
        refine ⟨hk, by simp, ?_⟩; intro x hx y hy e; simp at hy; exact hkn (by rw [← hy, ← e]; exact hx)
      · rw [mset, if_neg hkn, mkE_app kc l [(k, v)] bs [c] hb]; exact H2
  | some x =>
    obtain ⟨j, v'⟩ := x
    obtain ⟨a, x, b', rfl, e, hx, hno⟩ := findI_some hf
    rw [Nat.zero_add] at e
    subst e
    have hkm : k ∈ (a ++ x :: b').map (·.1) := List.mem_map.2 ⟨x, by simp, hx⟩
    have hms : mset k v (a ++ x :: b') = a ++ (k, v) :: b' := by
      rw [mset, if_pos hkm, List.map_append, List.map_cons, if_pos hx]
      have h1 : a.map (fun x => if x.1 = k then (k, v) else x) = a := by
        conv => rhs; rw [← List.map_id a]
        exact List.map_congr_left fun y hy => if_neg (hno y hy)
      have h2 : b'.map (fun x => if x.1 = k then (k, v) else x) = b' := by
        conv => rhs; rw [← List.map_id b']
        refine List.map_congr_left fun y hy => if_neg fun e => ?_
        rw [List.map_append, List.map_cons, List.nodup_append] at hk
        have := (List.nodup_cons.1 hk.2.1).1
        exact this (List.mem_map.2 ⟨y, hy, e.trans hx.symm⟩)
      rw [h1, h2]
    obtain ⟨b1, c1, b2, rfl, hl1⟩ : ∃ b1 c1 b2, bs = b1 ++ c1 :: b2 ∧ b1.length = a.length := by
      have hla : a.length < bs.length := by rw [hb]; simp
      exact ⟨bs.take a.length, bs[a.length], bs.drop (a.length + 1), by
        have := (List.take_append_drop a.length bs).symm
        rwa [List.drop_eq_getElem_cons hla] at this, by rw [List.length_take]; omega⟩
    have eE : mkE kc (a ++ x :: b') (b1 ++ c1 :: b2) = mkE kc a b1 ++ ⟨kc x.1, x.2, c1⟩ :: mkE kc b' b2 := mkE_app kc a (x :: b') b1 (c1 :: b2) hl1
    have eE' : mkE kc (a ++ (k, v) :: b') (b1 ++ c1 :: b2) = mkE kc a b1 ++ ⟨kc k, v, c1⟩ :: mkE kc b' b2 := mkE_app kc a ((k, v) :: b') b1 (c1 :: b2) hl1
    have hl2 := mkE_len kc a b1 hl1
    obtain ⟨H2, hkp⟩ := H.mpSet (es' := mkE kc a b1 ++ ⟨kc k, v, c1⟩ :: mkE kc b' b2) (c' := c)
    refine ⟨(), { w with heap := w.heap.setIfInBounds b (.map (mkE kc a b1 ++ ⟨kc k, v, c1⟩ :: mkE kc b' b2).toArray c) }, ?_, k0 _ ?_, hkp, rfl, rfl, rfl⟩
    · have hget : (mkE kc (a ++ x :: b') (b1 ++ c1 :: b2)).toArray[a.length]? = some ⟨kc x.1, x.2, c1⟩ := by
        rw [eE]; simp [hl2]
      simp only [hget, Option.map_some, Option.getD_some, hx]
      unfold Instr.keyThatStays
      rw [T.same k]
      simp only [if_true, Sem.run_bind, Sem.run_pure, Result.andThen]
      rw [hset]
      congr 3
      rw [eE]
      congr 1
      apply Array.ext'
      simp only [Array.toList_modify, List.toList_toArray]
      rw [List.modify_eq_take_cons_drop (by simp [hl2])]
      have hdr : List.drop (a.length + 1) (mkE kc a b1 ++ ⟨kc x.1, x.2, c1⟩ :: mkE kc b' b2) = mkE kc b' b2 := by
        rw [← hl2, List.drop_length_add_append]; rfl
      rw [hdr]
      simp [hl2]
    · refine Hs.mpS.2 ⟨b1 ++ c1 :: b2, c, ⟨?_, hnd, hlt, ?_⟩, ?_⟩
      · rw [hms]; simpa using hb
      · rw [hms]
        have : (a ++ (k, v) :: b').map (·.1) = (a ++ x :: b').map (·.1) := by simp [hx]
        rw [this]; exact hk
      · rw [hms, eE']; exact H2
end
section
variable {κ : Type} {P : Program} {h : Hp} {rs : List SL}
theorem mkS {t : TypeId} {kc : κ → Value} {K : Value → A} (H : Hs h rs) (k0 : ∀ b h', Hs h' (mpS b kc [] :: rs) → K (.map (some b)) h') : ru P (Instr.makeMap t none) K h := by
  intro w hw
  subst hw
  refine ⟨.map (some w.heap.size), { w with heap := w.heap.push (.map #[] 0) }, rfl, k0 _ _ (Hs.mpS.2 ⟨[], 0, ⟨rfl, by simp, by simp, by simp⟩, ?_⟩), Keep_push _ _, rfl, rfl, rfl⟩
  obtain ⟨F, H⟩ := H
  have hext : ∀ x, x < w.heap.size → (w.heap.push (.map #[] 0))[x]? = w.heap[x]? := fun x hx => by rw [Array.getElem?_push, if_neg (by omega)]
  refine ⟨fun x => x = w.heap.size ∨ F x, (· = w.heap.size), F, fun x => Iff.rfl, fun x h1 h2 => ?_, ⟨fun x => Iff.rfl, ?_⟩, (sep rs).loc _ _ F H (by simp) fun x hx => (hext x ((sep rs).lt _ F H x hx))⟩
  · have := (sep rs).lt _ F H x h2
    rw [h1] at this; exact Nat.lt_irrefl _ this
  · show (w.heap.push (.map #[] 0))[w.heap.size]? = some (.map ([] : List MapEntry).toArray 0)
    simp
end
end Go.Proofs.YtalknmdbamlabaaGreat.Q
