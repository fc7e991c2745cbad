/- Texts' order; the search in a node. Conditions: none. -/
import Derived.Test.YtalknmdbamlabaaGreatBlt
import Derived.Test.YtalknmdbamlabaaGreatCA
namespace Go.Proofs.YtalknmdbamlabaaGreat.Q
open Go
open SL (bk bkn mp old exS puS emS stS)
/-- one text comes ahead of another one. -/
def bl (a b : ByteArray) : Bool := Op.bytesLess a.toList b.toList
theorem bL_irr : ∀ l : List UInt8, Op.bytesLess l l = false
  | [] => rfl
  | a :: l => by simp [Op.bytesLess, bL_irr l]
theorem bL_trans : ∀ a b c : List UInt8, Op.bytesLess a b = true → Op.bytesLess b c = true → Op.bytesLess a c = true
  | [], [], _, h, _ => by simp [Op.bytesLess] at h
  | [], _ :: _, [], _, h => by simp [Op.bytesLess] at h
  | [], _ :: _, _ :: _, _, _ => rfl
  | _ :: _, [], _, h, _ => by simp [Op.bytesLess] at h
  | _ :: _, _ :: _, [], _, h => by simp [Op.bytesLess] at h
  | a :: x, b :: y, c :: z, h1, h2 => by
    simp only [Op.bytesLess, Bool.or_eq_true, decide_eq_true_eq, Bool.and_eq_true, beq_iff_eq] at *
    rcases h1 with h1 | ⟨rfl, h1⟩ <;> rcases h2 with h2 | ⟨rfl, h2⟩
    · exact .inl (UInt8.lt_trans h1 h2)
    · exact .inl h1
    · exact .inl h2
    · exact .inr ⟨rfl, bL_trans x y z h1 h2⟩
theorem bL_tri : ∀ a b : List UInt8, Op.bytesLess a b = true ∨ a = b ∨ Op.bytesLess b a = true
  | [], [] => .inr (.inl rfl)
  | [], _ :: _ => .inl rfl
  | _ :: _, [] => .inr (.inr rfl)
  | a :: x, b :: y => by
    simp only [Op.bytesLess, Bool.or_eq_true, decide_eq_true_eq, Bool.and_eq_true, beq_iff_eq, List.cons.injEq]
    by_cases h : a < b
    · exact .inl (.inl h)
    · by_cases h' : b < a
      · exact .inr (.inr (.inl h'))
      · have e : a = b := UInt8.toNat_inj.1 (by rw [UInt8.lt_iff_toNat_lt] at h h'; omega)
        subst e
        rcases bL_tri x y with h1 | h1 | h1
        · exact .inl (.inr ⟨rfl, h1⟩)
        · exact .inr (.inl ⟨rfl, h1⟩)
        · exact .inr (.inr (.inr ⟨rfl, h1⟩))
theorem toList_inj {x y : ByteArray} (h : x.toList = y.toList) : x = y := by
  have := beq_toListBytes x y
  rw [h] at this
  have h2 : (x.data == y.data) = true := this.trans (by simp)
  exact ByteArray.ext (eq_of_beq h2)
theorem bl_irr (a : ByteArray) : bl a a = false := bL_irr _
theorem bl_trans {a b c : ByteArray} : bl a b = true → bl b c = true → bl a c = true := bL_trans _ _ _
theorem bl_tri (a b : ByteArray) : bl a b = true ∨ a = b ∨ bl b a = true := by
  rcases bL_tri a.toList b.toList with h | h | h
  · exact .inl h
  · exact .inr (.inl (toList_inj h))
  · exact .inr (.inr h)
theorem bl_asym {a b : ByteArray} (h : bl a b = true) : bl b a = false := by
  cases hb : bl b a with
  | false => rfl
  | true => have := bl_trans h hb; rw [bl_irr] at this; cases this
theorem toList_beq (x y : ByteArray) : (x.toList == y.toList) = decide (x = y) := by
  by_cases h : x = y
  · subst h; simp
  · have : ¬ x.toList = y.toList := fun e => h (toList_inj e)
    simp [h, this]
def cmpB (x y : ByteArray) : Int := if bl x y then -1 else if x = y then 0 else 1
theorem s431 {h : Hp} (x : ByteArray) : FnW Tryz.prog 431 #[.string x] (fun v h' => v = .bool false ∧ h' = h) h :=
  c431 (bn_s (.bool false) (by simp [binV, strV]) ⟨rfl, rfl⟩)
theorem s398 {h : Hp} (x y : ByteArray) : FnW Tryz.prog 398 #[.string x, .string y] (fun v h' => v = vi (cmpB x y) ∧ h' = h) h := by
  refine c398 ?_
  unfold C398
  refine cl_s b431 (s431 x) ?_
  rintro _ h' ⟨rfl, rfl⟩
  refine cl_s b431 (s431 y) ?_
  rintro _ h' ⟨rfl, rfl⟩
  refine cn_f (cn_f (bn_s (.bool (bl x y)) rfl (cn_s (fun hb => ?_) fun hb => ?_)))
  · exact ⟨by simp [cmpB, hb], rfl⟩
  · refine bn_s (.bool (!(bl x y || x.toList == y.toList))) rfl (cn_s (fun hc => ?_) fun hc => ?_)
    · rw [hb, toList_beq] at hc
      have : ¬ x = y := by simpa using hc
      exact ⟨by simp [cmpB, hb, this], rfl⟩
    · rw [hb, toList_beq] at hc
      have : x = y := by simpa using hc
      exact ⟨by rw [cmpB, hb, if_neg (by simp), if_pos this], rfl⟩
/-- a key and the record's four cells. -/
abbrev It := ByteArray × List Value
def It.c (x : It) : List Value := .string x.1 :: x.2
theorem s397 {h : Hp} {rs : List SL} (H : Hs h rs) (x : It) (k : ByteArray) : FnW Tryz.prog 397 #[.agg x.c.toArray, .string k] (fun v h' => v = vi (cmpB x.1 k) ∧ Hs h' rs) h := by
  refine c397 ?_
  unfold C397
  refine bxS H fun b h H => fa_s (ld1S H (.string x.1) rfl ?_)
  refine cl_s b398 (s398 x.1 k) ?_
  rintro _ h' ⟨rfl, rfl⟩
  exact ⟨rfl, H.drop⟩
/-- the place of a key among rising ones. -/
structure Pos (ks : List ByteArray) (t : ByteArray) (i : Nat) : Prop where
  le : i ≤ ks.length
  lo : ∀ m (hm : m < ks.length), m < i → bl ks[m] t = true
  hi : ∀ m (hm : m < ks.length), i ≤ m → bl ks[m] t = false
def Rise (ks : List ByteArray) : Prop := ks.Pairwise fun a b => bl a b = true
theorem Hs.vecLen {h : Hp} {z : Nat} {s : Value} {es : List (List Value)} {rs : List SL} (H : Hs h (Q.vec z s es :: rs)) : ∀ e ∈ es, e.length = z := by
  rcases H.vec with ⟨_, rfl, _⟩ | ⟨b, c, tl, rfl, hv, H0⟩
  · intro e he; cases he
  · exact hv.lens
theorem s396 {h : Hp} {rs : List SL} {s : Value} {its : List It} {t : ByteArray} (H : Hs h (vec 5 s (its.map It.c) :: rs)) (hr : Rise (its.map (·.1))) (hl : its.length ≤ 4611686018427387904) :
    FnW Tryz.prog 396 #[s, .string t, .func (.func 397) #[] #[]]
      (fun v h' => ∃ i, Pos (its.map (·.1)) t i ∧ v = .tuple #[vi i, .bool (decide ((its.map (·.1))[i]? = some t))] ∧ Hs h' (vec 5 s (its.map It.c) :: rs)) h := by
  refine c396 ?_
  unfold C396
  refine lnV H ?_
  rw [List.length_map]
  refine ⟨fun m vi' vj h => ∃ i j : Nat, vi' = vi i ∧ vj = vi j ∧ i ≤ j ∧ j ≤ its.length ∧ m = j - i ∧ (∀ m (hm : m < (its.map (·.1)).length), m < i → bl (its.map (·.1))[m] t = true) ∧
      (∀ m (hm : m < (its.map (·.1)).length), j ≤ m → bl (its.map (·.1))[m] t = false) ∧ Hs h (vec 5 s (its.map It.c) :: rs), ⟨_, 0, its.length, rfl, rfl, Nat.zero_le _, Nat.le_refl _, rfl, fun _ _ h => absurd h (Nat.not_lt_zero _), fun m hm h => by simp at hm; omega, H⟩, ?_⟩
  rintro m σ0 _ _ h ⟨i, j, rfl, rfl, hij, hjn, rfl, hlo, hhi, H⟩
  refine bn_s (.bool (decide ((i : Int) < j))) rfl (cn_s (fun hc => ?_) fun hc => ?_)
  · simp only [decide_eq_true_eq] at hc
    intro k hk
    refine bn_s (vi (IntKind.i64.wrap (i + j))) rfl (cvi_s (bn_s (vu ((i + j) / 2)) ?_ (cvi_s ?_)))
    · rw [w64_id (by omega) (by omega), wu64_id (by omega) (by omega)]
      simp only [binV]
      rw [if_neg (by omega), Int.fdiv_eq_ediv_of_nonneg _ (by decide)]
      rfl
    · have e : IntKind.i64.wrap (((i : Int) + j) / 2) = (((i + j) / 2 : Nat) : Int) := by rw [w64_id (by omega) (by omega)]; omega
      rw [e]
      generalize hm : (i + j) / 2 = p
      have hp : p < (its.map It.c).length := by rw [List.length_map]; omega
      have hp' : p < its.length := by simpa using hp
      have hp2 : p < (its.map (·.1)).length := by rw [List.length_map]; omega
      have hpk : (its.map (·.1))[p] = its[p].1 := by simp
      refine ixV H p rfl hp fun b hrd => ldnR hrd (H.vecLen _ (List.getElem_mem hp)).symm ?_
      rw [List.getElem_map]
      refine cv_s b397 (s397 H _ t) ?_
      rintro _ h ⟨rfl, H⟩
      refine bn_s (.bool (decide (cmpB its[p].1 t < 0))) rfl (cn_s (fun hc2 => ?_) fun hc2 => ?_)
      · simp only [decide_eq_true_eq] at hc2
        have hb : bl its[p].1 t = true := by
          unfold cmpB at hc2; split at hc2
          · assumption
          · split at hc2 <;> omega
        refine bn_s (vi (p + 1 : Nat)) ?_ (hk _ _ _ fun σ1 => ⟨_, ?_, _, _, rfl, rfl, ?_, ?_, rfl, ?_, ?_, H⟩)
        · simp only [binV, intV, if_true]; rw [w64_id (by omega) (by omega)]; rfl
        · omega
        · omega
        · omega
        · intro m hm hlt
          by_cases hmp : m = p
          · subst hmp; simpa using hb
          · have : bl (its.map (·.1))[m] (its.map (·.1))[p] = true := List.pairwise_iff_getElem.1 hr m p hm hp2 (by omega)
            rw [hpk] at this
            exact bl_trans this hb
        · exact hhi
      · simp only [decide_eq_false_iff_not] at hc2
        have hb : bl its[p].1 t = false := by
          cases hb : bl its[p].1 t with
          | false => rfl
          | true => unfold cmpB at hc2; rw [hb] at hc2; simp at hc2
        refine hk _ _ _ fun σ1 => ⟨_, ?_, _, _, rfl, rfl, ?_, ?_, rfl, ?_, ?_, H⟩
        · omega
        · omega
        · omega
        · exact hlo
        · intro m hm hlt
          by_cases hmp : m = p
          · subst hmp; simpa using hb
          · have : bl (its.map (·.1))[p] (its.map (·.1))[m] = true := List.pairwise_iff_getElem.1 hr p m hp2 hm (by omega)
            rw [hpk] at this
            cases hbm : bl (its.map (·.1))[m] t with
            | false => rfl
            | true => have := bl_trans this hbm; rw [hb] at this; cases this
  · simp only [decide_eq_false_iff_not] at hc
    have hji : j = i := by omega
    subst hji
    have hpos : Pos (its.map (·.1)) t j := ⟨by simpa using hjn, hlo, hhi⟩
    refine bn_s (.bool (decide ((j : Int) < its.length))) rfl ?_
    by_cases hjl : j < its.length
    · rw [show decide ((j : Int) < its.length) = true from by simpa using hjl]
      have hp : j < (its.map It.c).length := by rw [List.length_map]; omega
      refine gd_t (gd_t (gd_t (gd_t (ixV H j rfl hp fun b hrd => gd_t (ldnR hrd (H.vecLen _ (List.getElem_mem hp)).symm (gd_t (gd_t ?_)))))))
      rw [List.getElem_map]
      refine cv_s b397 (s397 H _ t) ?_
      rintro _ h ⟨rfl, H⟩
      refine gd_t (bn_s (.bool (cmpB its[j].1 t == 0)) rfl (pk_s ⟨j, hpos, ?_, H⟩))
      have hb := hhi j (by simpa using hjl) (Nat.le_refl _)
      rw [List.getElem_map] at hb
      simp only [if_true]
      rw [List.getElem?_map, List.getElem?_eq_getElem hjl]
      by_cases he : its[j].1 = t
      · simp [cmpB, hb, he, bl_irr]
      · simp [cmpB, hb, he]
    · rw [show decide ((j : Int) < its.length) = false from by simpa using hjl]
      refine gd_f (by simp) (gd_f (by simp) (gd_f (by simp) (gd_f (by simp) (gd_f (by simp) (gd_f (by simp) (gd_f (by simp) (gd_f (by simp) (pk_s ⟨j, hpos, ?_, H⟩))))))))
      simp only [Bool.false_eq_true, if_false]
      rw [List.getElem?_eq_none (by simp; omega)]
      simp
theorem s326 {h : Hp} {rs : List SL} {b : Nat} {s sk : Value} {its : List It} {t : ByteArray} (H : Hs h (bk b [s, sk] :: vec 5 s (its.map It.c) :: rs)) (hr : Rise (its.map (·.1))) (hl : its.length ≤ 4611686018427387904) :
    FnW Tryz.prog 326 #[pt b 0, .string t]
      (fun v h' => ∃ i, Pos (its.map (·.1)) t i ∧ v = .tuple #[vi i, .bool (decide ((its.map (·.1))[i]? = some t))] ∧ Hs h' (bk b [s, sk] :: vec 5 s (its.map It.c) :: rs)) h := by
  refine c326 ?_
  unfold C326
  refine nc_s (fa_s (ld1S H s rfl (cl_s b396 (s396 H.p1 hr hl) ?_)))
  rintro _ h ⟨i, hi, rfl, H⟩
  exact ex_s _ rfl (ex_s _ rfl ⟨i, hi, rfl, H.p1⟩)
end Go.Proofs.YtalknmdbamlabaaGreat.Q
