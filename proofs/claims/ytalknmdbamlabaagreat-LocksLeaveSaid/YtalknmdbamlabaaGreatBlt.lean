/- Builtins over owned blocks. Conditions: none. -/
import Derived.Test.YtalknmdbamlabaaGreatVec
import Derived.Laws.Append
import Derived.Laws.StructEq
namespace Go.Proofs.YtalknmdbamlabaaGreat.Q
open Go
open SL (bk bkn mp old exS puS emS stS)
section
variable {P : Program} {h : Hp} {K : Value → A} {X Y : A} {rs : List SL}
theorem eqP (d : Nat) (w : World) {t e : TypeId} {a : Option Addr} (ht : P.underlying t = some (.pointer e)) : (Op.equalIn (d + 1) t (.pointer a) (.pointer none)).run P w = .ok a.isNone w := by
  simp only [Op.equalIn, Sem.run_bind, run_und ht, Result.andThen]
  cases a <;> rfl
theorem eqS (d : Nat) (w : World) {t e : TypeId} {a : Option Addr} {n c : Nat} (ht : P.underlying t = some (.slice e)) : (Op.equalIn (d + 1) t (.slice a n c) (.slice none 0 0)).run P w = .ok a.isNone w := by
  simp only [Op.equalIn, Sem.run_bind, run_und ht, Result.andThen]
  cases a <;> rfl
theorem beP {t e : TypeId} {neg : Bool} {a : Option Addr} (ht : P.underlying t = some (.pointer e)) (k : K (.bool (a.isNone != neg)) h) : be P t neg (.pointer a) (.pointer none) K h :=
  ⟨rfl, a.isNone, fun w => eqP 9999 w ht, k⟩
theorem beS {t e : TypeId} {neg : Bool} {a : Option Addr} {n c : Nat} (ht : P.underlying t = some (.slice e)) (k : K (.bool (a.isNone != neg)) h) : be P t neg (.slice a n c) (.slice none 0 0) K h :=
  ⟨rfl, a.isNone, fun w => eqS 9999 w ht, k⟩
theorem capS {t e ty : TypeId} {a : Option Addr} {n c : Nat} (ht : P.underlying t = some (.slice e)) (k : K (vi c) h) : pp P (Builtin.cap_ #[t] ty #[.slice a n c]) K h := by
  refine ⟨vi c, fun w => ?_, k⟩
  unfold Builtin.cap_
  simp only [List.size_toArray, List.length_cons, List.length_nil, Nat.reduceAdd, Nat.lt_add_one, getElem?_pos, List.getElem_toArray, List.getElem_cons_zero, Sem.run_bind, run_und ht, Result.andThen]
  rfl
theorem cel_ok {b o : Nat} {vs : List Value} (H : Rd h b o vs) : cels h ⟨b, o, none⟩ 0 vs.length = some vs := by
  obtain ⟨cs, h1, h2, h3⟩ := H
  rw [h1.cels (o := o) vs.length 0 (by omega)]; simpa using h3
theorem cels_pre {h : Hp} {a : Addr} : ∀ (n m i : Nat) (vs : List Value), cels h a i (n + m) = some vs → cels h a i n = some (vs.take n)
  | 0, m, i, vs, _ => by simp [cels]
  | n + 1, m, i, vs, H => by
    rw [show n + 1 + m = (n + m) + 1 from by omega] at H
    simp only [cels] at H ⊢
    split at H
    · rename_i v hv
      obtain ⟨vs', h1, rfl⟩ := Option.map_eq_some_iff.1 H
      rw [cels_pre n m (i + 1) vs' h1]; rfl
    · cases H
theorem cpS {t u ty e : TypeId} {i : TypeInfo} {b o dl c b' o' sl' c' : Nat} {cs vs : List Value} (ht : P.underlying t = some (.slice e)) (hi : P.info? e = some i) (H : Hs h (bk b cs :: rs))
    (hv : Rd h b' o' vs) (hl : vs.length = min sl' dl * i.size) (hr : o + vs.length ≤ cs.length) (h1 : ∀ u ∈ vs, oneC u = true)
    (k : ∀ h', Hs h' (bk b (splice cs o vs) :: rs) → K (vi ((min sl' dl : Nat) : Int)) h') : ru P (Builtin.copy_ #[t, u] ty #[sl b o dl c, sl b' o' sl' c']) K h := by
  intro w hw
  subst hw
  obtain ⟨h', h2, h3⟩ := Blk.stcs (b := b) (o := o) vs 0 w.heap cs H.blk (by simpa using hr) h1
  refine ⟨vi ((min sl' dl : Nat) : Int), { w with heap := h' }, ?_, k h' (H.upd (by simpa using h3)), Keep_stcs _ _ _ _ h2, rfl, rfl, rfl⟩
  unfold Builtin.copy_
  simp only [List.size_toArray, List.length_cons, List.length_nil, Nat.reduceAdd, Nat.lt_add_one, getElem?_pos, List.getElem_toArray, List.getElem_cons_zero, Nat.zero_lt_succ, List.getElem_cons_succ, Nat.reduceLT]
  simp only [Sem.run_bind, run_und ht, Result.andThen, run_sz hi, Builtin.lenOf, Sem.run_pure, Builtin.firstCells, loadCells]
  have e1 : Nat.min sl' dl * i.size = vs.length := hl.symm
  rw [e1, run_ldn vs.length 0 #[] vs (cel_ok hv)]
  have e2 := run_st (P := P) vs 0 w h' h2
  simp only [show (#[] ++ vs.toArray : Array Value).toList = vs from by simp, e2]
  rfl
/-- nothing to copy. -/
theorem cp0 {t u ty e : TypeId} {i : TypeInfo} {d s : Option Addr} {dl c sl' c' : Nat} (ht : P.underlying t = some (.slice e)) (hi : P.info? e = some i) (h0 : min sl' dl = 0)
    (k : K (vi 0) h) : ru P (Builtin.copy_ #[t, u] ty #[.slice d dl c, .slice s sl' c']) K h := by
  intro w hw
  subst hw
  refine ⟨vi 0, w, ?_, k, KW.refl _⟩
  unfold Builtin.copy_
  simp only [List.size_toArray, List.length_cons, List.length_nil, Nat.reduceAdd, Nat.lt_add_one, getElem?_pos, List.getElem_toArray, List.getElem_cons_zero, Nat.zero_lt_succ, List.getElem_cons_succ, Nat.reduceLT]
  simp only [Sem.run_bind, run_und ht, Result.andThen, run_sz hi, Builtin.lenOf, Sem.run_pure]
  have e1 : Nat.min sl' dl = 0 := h0
  rw [e1]
  cases s <;> cases d <;> simp [Builtin.firstCells, loadCells, loadCellsFrom, storeCells, Sem.run_pure] <;> rfl
theorem clrS {t ty e : TypeId} {i : TypeInfo} {zv : Value} {z : List Value} {b o n c : Nat} {cs : List Value} (ht : P.underlying t = some (.slice e)) (hi : P.info? e = some i) (hz : i.zero = some zv) (hzc : zv.cells = z.toArray) (hz0 : z ≠ [])
    (H : Hs h (bk b cs :: rs)) (hr : o + n * z.length ≤ cs.length) (h1 : ∀ u ∈ rep z n, oneC u = true) (hl : (rep z n).length = n * z.length)
    (k : ∀ h', Hs h' (bk b (splice cs o (rep z n)) :: rs) → K (.tuple #[]) h') : ru P (Builtin.clear_ #[t] ty #[sl b o n c]) K h := by
  intro w hw
  subst hw
  by_cases hn : n = 0
  · subst hn
    have := k w.heap (by rw [show rep z 0 = [] from rfl, splice_nil]; exact H)
    refine ⟨.tuple #[], w, ?_, this, KW.refl _⟩
    unfold Builtin.clear_
    simp only [List.size_toArray, List.length_cons, List.length_nil, Nat.reduceAdd, Nat.lt_add_one, getElem?_pos, List.getElem_toArray, List.getElem_cons_zero, Sem.run_bind, run_und ht, Result.andThen]
    rfl
  · obtain ⟨h', h2, h3⟩ := Blk.stcs (b := b) (o := o) (rep z n) 0 w.heap cs H.blk (by rw [hl]; simpa using hr) h1
    refine ⟨.tuple #[], { w with heap := h' }, ?_, k h' (H.upd (by simpa using h3)), Keep_stcs _ _ _ _ h2, rfl, rfl, rfl⟩
    unfold Builtin.clear_
    simp only [List.size_toArray, List.length_cons, List.length_nil, Nat.reduceAdd, Nat.lt_add_one, getElem?_pos, List.getElem_toArray, List.getElem_cons_zero, Sem.run_bind, run_und ht, Result.andThen]
    obtain ⟨m, rfl⟩ := Nat.exists_eq_succ_of_ne_zero hn
    simp only [Sem.run_bind, run_zv hi hz, Result.andThen, hzc, rep_zeroCells z _ hz0]
    rw [run_st (P := P) (rep z (m + 1)) 0 w h' h2]
    rfl
theorem rep_len (z : List Value) : ∀ n, (rep z n).length = n * z.length
  | 0 => by simp [rep]
  | n + 1 => by simp only [rep, List.length_append, rep_len z n, Nat.add_mul, Nat.one_mul, Nat.add_comm]
theorem rep_one (z : List Value) (h1 : ∀ u ∈ z, oneC u = true) : ∀ n, ∀ u ∈ rep z n, oneC u = true
  | 0, u, hu => by simp [rep] at hu
  | n + 1, u, hu => by
    simp only [rep, List.mem_append] at hu
    rcases hu with hu | hu
    · exact h1 u hu
    · exact rep_one z h1 n u hu
/-- append onto a slice with its own memory. -/
theorem apV {z : List Value} {by_ : Nat} {e : TypeId} {s x : Value} {es new : List (List Value)} (H : Hs h (vec z.length s es :: rs)) (hz : ∀ u ∈ z, oneC u = true)
    (hx : srcOf h z.length x = some (new.length, new.flatten)) (hl : ∀ e ∈ new, e.length = z.length) (h1 : ∀ e ∈ new, ∀ u ∈ e, oneC u = true)
    (hb : (es.length + new.length) * by_ ≤ 140737488355328) (hb' : es.length + new.length ≤ 9223372036854775807)
    (k : ∀ s' h', Hs h' (vec z.length s' (es ++ new) :: rs) → K s' h') : apd z by_ e s x K h := by
  have ones : ∀ u ∈ new.flatten, oneC u = true := by
    intro u hu; obtain ⟨e, he, hu⟩ := List.mem_flatten.1 hu; exact h1 e he u hu
  have hnf := flat_len hl
  rcases H.vec with ⟨rfl, rfl, H0⟩ | ⟨b, c, tl, rfl, hv, H0⟩
  · refine ⟨none, 0, 0, new.length, new.flatten, rfl, hx, fun hle => ⟨fun _ => ?_, fun a ha => (by cases ha)⟩, fun hlt => ⟨?_, ?_, 0, [], rfl, fun c' hc' => ?_⟩⟩
    · have : new = [] := List.eq_nil_of_length_eq_zero (by omega)
      subst this
      exact k _ _ (Hs.vec0 H0)
    · exact growslice_fits hlt (by simpa using hb)
    · have e0 : ([] : List (List Value)).length = 0 := rfl
      rw [e0] at hb'; omega
    · have hn := Hs.new H0 (New.mk' h ([] ++ new.flatten ++ rep z (c' - (0 + new.length))).toArray e)
      rw [List.toList_toArray, List.nil_append] at hn
      have hv' : VOk z.length new c' (rep z (c' - (0 + new.length))) := by
        refine ⟨hl, h1, by omega, ?_⟩
        rw [rep_len, ← Nat.add_mul]
        exact Nat.mul_le_mul_right _ (by omega)
      have := Hs.vec1 hv' hn
      simpa using k _ _ this
  · have hef := flat_len hv.lens
    have htl : c * z.length ≤ es.length * z.length + tl.length := hv.room
    refine ⟨some ⟨b, 0, none⟩, es.length, c, new.length, new.flatten, rfl, hx, fun hle => ⟨fun hh => (by cases hh), fun a ha => ?_⟩, fun hlt => ⟨?_, by omega, es.length, es.flatten, ?_, fun c' hc' => ?_⟩⟩
    · cases ha
      have hle' : es.length * z.length + new.length * z.length ≤ c * z.length := by rw [← Nat.add_mul]; exact Nat.mul_le_mul_right _ hle
      obtain ⟨h', h2, h3⟩ := Blk.stcs (b := b) (o := es.length * z.length) new.flatten 0 h _ H0.blk (by rw [hnf, List.length_append, hef]; omega) ones
      refine ⟨h', ?_, ?_⟩
      · rw [add_mk, Nat.zero_add]; exact h2
      · have H1 := H0.upd h3
        have es1 : splice (es.flatten ++ tl) (es.length * z.length + 0) new.flatten = (es ++ new).flatten ++ tl.drop new.flatten.length := by
          unfold splice
          rw [Nat.add_zero, ← hef, List.take_left, List.drop_length_add_append, List.flatten_append]
        rw [es1] at H1
        have hv' : VOk z.length (es ++ new) c (tl.drop new.flatten.length) := by
          refine ⟨?_, ?_, by simpa using hle, ?_⟩
          · intro e he; rcases List.mem_append.1 he with he | he
            · exact hv.lens e he
            · exact hl e he
          · intro e he; rcases List.mem_append.1 he with he | he
            · exact hv.ones e he
            · exact h1 e he
          · rw [List.length_append, List.length_drop, hnf, Nat.add_mul]; omega
        have := Hs.vec1 hv' H1
        simpa using k _ _ this
    · exact growslice_fits hlt hb
    · show (cels h ⟨b, 0, none⟩ 0 (es.length * z.length)).map _ = _
      have hr : Rd h b 0 es.flatten := H0.blk.rdAt 0 _ (by rw [List.length_append]; omega) (by simp)
      rw [← hef, cel_ok hr]; rfl
    · have hn := Hs.new H0.drop (New.mk' h (es.flatten ++ new.flatten ++ rep z (c' - (es.length + new.length))).toArray e)
      rw [List.toList_toArray, ← List.flatten_append] at hn
      have hv' : VOk z.length (es ++ new) c' (rep z (c' - (es.length + new.length))) := by
        refine ⟨?_, ?_, by simpa using hc', ?_⟩
        · intro e he; rcases List.mem_append.1 he with he | he
          · exact hv.lens e he
          · exact hl e he
        · intro e he; rcases List.mem_append.1 he with he | he
          · exact hv.ones e he
          · exact h1 e he
        · rw [rep_len, List.length_append, ← Nat.add_mul]
          exact Nat.mul_le_mul_right _ (by omega)
      have := Hs.vec1 hv' hn
      simpa using k _ _ this
theorem srcRd {b o n c sz : Nat} {vs : List Value} (H : Rd h b o vs) (hl : vs.length = n * sz) : srcOf h sz (sl b o n c) = some (n, vs) := by
  show (cels h ⟨b, o, none⟩ 0 (n * sz)).map _ = _
  rw [← hl, cel_ok H]; rfl
theorem srcNil {sz : Nat} : srcOf h sz nilS = some (0, []) := rfl
theorem Hs.vecSrc {z : Nat} {s : Value} {es : List (List Value)} (H : Hs h (Q.vec z s es :: rs)) : srcOf h z s = some (es.length, es.flatten) := by
  rcases H.vec with ⟨rfl, rfl, _⟩ | ⟨b, c, tl, rfl, hv, H0⟩
  · rfl
  · have hef := flat_len hv.lens
    exact srcRd (H0.blk.rdAt 0 _ (by rw [List.length_append]; omega) (by simp)) hef
/-- append(s, make(..)...) onto new memory. -/
theorem apM {t ti ty e : TypeId} {k0 : IntKind} {i : TypeInfo} {zv : Value} {z : List Value} {b o len cap n : Nat} {vs : List Value} (ht : P.underlying t = some (.slice e)) (hti : P.underlying ti = some (.int k0)) (hi : P.info? e = some i)
    (hz : i.zero = some zv) (hzc : zv.cells = z.toArray) (hz0 : z ≠ []) (hsz : i.size = z.length) (hgrow : cap < len + n) (hb : (len + n) * i.bytes ≤ 140737488355328) (hb' : len + n ≤ 9223372036854775807)
    (H : Hs h rs) (hv : Rd h b o vs) (hl : vs.length = len * z.length)
    (k : ∀ b' c' h', len + n ≤ c' → Hs h' (bk b' (vs ++ rep z n ++ rep z (c' - (len + n))) :: rs) → K (sl b' 0 (len + n) c') h') : ru P (Builtin.append_ #[t, ti] ty #[sl b o len cap, vi n]) K h := by
  intro w hw
  subst hw
  unfold Builtin.append_
  simp only [List.size_toArray, List.length_cons, List.length_nil, Nat.reduceAdd, Nat.lt_add_one, getElem?_pos, List.getElem_toArray, List.getElem_cons_zero, Nat.zero_lt_succ, List.getElem_cons_succ, Nat.reduceLT]
  have hbn : n * i.bytes ≤ 140737488355328 := Nat.le_trans (Nat.mul_le_mul_right _ (by omega)) hb
  have hbn' := Int.ofNat_le.2 hbn
  rw [Int.natCast_mul] at hbn'
  have hw64 : IntKind.i64.wrap (n : Int) = n := w64_id (by omega) (by omega)
  have hmax : IntKind.i64.max = 9223372036854775807 := by decide
  simp only [Sem.run_bind, run_und ht, Result.andThen, run_sz hi, run_und hti, Sem.run_pure, if_true, asInt, asIntOf]
  rw [hw64]
  simp only [show ¬ ((n : Int) < 0) from by omega, if_false, Sem.run_bind, run_ti hi, Result.andThen]
  rw [if_neg (by omega)]
  simp only [Sem.run_bind, Sem.run_pure, Int.toNat_natCast, Result.andThen]
  rw [if_neg (by omega)]
  simp only [Sem.run_bind, run_ti hi, Result.andThen]
  rw [if_neg (by rw [hmax]; omega)]
  simp only [Sem.run_bind, run_ti hi, Result.andThen]
  rw [if_neg (by have := growslice_fits hgrow hb; omega)]
  have hch : (choose (Question.appendCap (len + n) cap e)).run P w = .ok ((Question.appendCap (len + n) cap e).cut (w.tape w.drawn (Question.appendCap (len + n) cap e))) { w with drawn := w.drawn + 1 } := rfl
  rw [Sem.run_bind, hch]
  simp only [Result.andThen]
  have hge : len + n ≤ (Question.appendCap (len + n) cap e).cut (w.tape w.drawn (Question.appendCap (len + n) cap e)) := by
    simp only [Question.cut]; omega
  generalize (Question.appendCap (len + n) cap e).cut (w.tape w.drawn (Question.appendCap (len + n) cap e)) = c' at hge
  rw [Sem.run_bind, run_ti hi]
  simp only [Result.andThen]
  have hask : ∀ (m : Nat) (w : World), (askRoom m).run P w = .ok () w := by
    intro m w; unfold askRoom; split <;> rfl
  rw [Sem.run_bind, hask]
  simp only [Result.andThen]
  have hfc : (Builtin.firstCells i.size len (sl b o len cap)).run P { w with drawn := w.drawn + 1 } = .ok vs.toArray { w with drawn := w.drawn + 1 } := by
    simp only [Builtin.firstCells, loadCells]
    rw [hsz, ← hl]
    have hc := cel_ok (h := w.heap) hv
    rw [run_ldn (w := { w with drawn := w.drawn + 1 }) vs.length 0 #[] vs hc]
    simp
  rw [Sem.run_bind, hfc]
  simp only [Result.andThen, hsz]
  have hap : ((if n * z.length = 0 then pure #[] else do let v ← zeroValue e; pure (Builtin.zeroCells v.cells n) : Sem (Array Value))).run P { w with drawn := w.drawn + 1 } = .ok (rep z n).toArray { w with drawn := w.drawn + 1 } := by
    split
    · rename_i h0
      have : n = 0 := by
        rcases Nat.mul_eq_zero.1 h0 with h0 | h0
        · exact h0
        · exact absurd (List.eq_nil_of_length_eq_zero h0) hz0
      subst this; rfl
    · simp only [Sem.run_bind, run_zv hi hz, Result.andThen, Sem.run_pure, hzc]
      have := rep_zeroCells z n hz0
      congr 1
      exact Array.toList_inj.1 (by rw [this])
  simp only [Bool.not_true, Bool.false_eq_true, if_false]
  rw [Sem.run_bind, hap]
  simp only [Result.andThen]
  rw [Sem.run_bind, run_zv hi hz]
  simp only [Result.andThen]
  rw [Sem.run_bind, run_newRow']
  refine ⟨_, _, rfl, ?_, Keep_push _ _, rfl, rfl, rfl⟩
  have hrz : Builtin.zeroCells zv.cells (c' - (len + n)) = (rep z (c' - (len + n))).toArray := by
    rw [hzc, ← rep_zeroCells z _ hz0]
  have h5 := Hs.new H (New.mk' w.heap (vs ++ rep z n ++ rep z (c' - (len + n))).toArray e)
  rw [List.toList_toArray] at h5
  have h6 := k w.heap.size c' _ hge h5
  rw [hrz]
  simpa using h6
end
end Go.Proofs.YtalknmdbamlabaaGreat.Q
