/- A node's put. Conditions: none. -/
import Derived.Test.YtalknmdbamlabaaGreatP2
import Derived.Test.YtalknmdbamlabaaGreatP3
namespace Go.Proofs.YtalknmdbamlabaaGreat.Q
open Go
open SL (bk bkn mp old exS puS emS stS)
theorem pm0 {a : SL} {rs ts : List SL} (h : rs.Perm ts) : (a :: rs).Perm (a :: ts) := .cons a h
theorem pm1 {a b0 : SL} {rs ts : List SL} (h : rs.Perm (b0 :: ts)) : (a :: rs).Perm (b0 :: a :: ts) := (List.Perm.cons a h).trans (.swap ..)
theorem pm2 {a b0 b1 : SL} {rs ts : List SL} (h : rs.Perm (b0 :: b1 :: ts)) : (a :: rs).Perm (b0 :: b1 :: a :: ts) := (List.Perm.cons a h).trans (.trans (.swap ..) (.cons _ (.swap ..)))
theorem pm3 {a b0 b1 b2 : SL} {rs ts : List SL} (h : rs.Perm (b0 :: b1 :: b2 :: ts)) : (a :: rs).Perm (b0 :: b1 :: b2 :: a :: ts) := (List.Perm.cons a h).trans (.trans (.swap ..) (.cons _ (.trans (.swap ..) (.cons _ (.swap ..)))))
theorem pm4 {a b0 b1 b2 b3 : SL} {rs ts : List SL} (h : rs.Perm (b0 :: b1 :: b2 :: b3 :: ts)) : (a :: rs).Perm (b0 :: b1 :: b2 :: b3 :: a :: ts) := (List.Perm.cons a h).trans (.trans (.swap ..) (.cons _ (.trans (.swap ..) (.cons _ (.trans (.swap ..) (.cons _ (.swap ..)))))))
theorem pm5 {a b0 b1 b2 b3 b4 : SL} {rs ts : List SL} (h : rs.Perm (b0 :: b1 :: b2 :: b3 :: b4 :: ts)) : (a :: rs).Perm (b0 :: b1 :: b2 :: b3 :: b4 :: a :: ts) := (List.Perm.cons a h).trans (.trans (.swap ..) (.cons _ (.trans (.swap ..) (.cons _ (.trans (.swap ..) (.cons _ (.trans (.swap ..) (.cons _ (.swap ..)))))))))
theorem pm6 {a b0 b1 b2 b3 b4 b5 : SL} {rs ts : List SL} (h : rs.Perm (b0 :: b1 :: b2 :: b3 :: b4 :: b5 :: ts)) : (a :: rs).Perm (b0 :: b1 :: b2 :: b3 :: b4 :: b5 :: a :: ts) := (List.Perm.cons a h).trans (.trans (.swap ..) (.cons _ (.trans (.swap ..) (.cons _ (.trans (.swap ..) (.cons _ (.trans (.swap ..) (.cons _ (.trans (.swap ..) (.cons _ (.swap ..)))))))))))
theorem pm7 {a b0 b1 b2 b3 b4 b5 b6 : SL} {rs ts : List SL} (h : rs.Perm (b0 :: b1 :: b2 :: b3 :: b4 :: b5 :: b6 :: ts)) : (a :: rs).Perm (b0 :: b1 :: b2 :: b3 :: b4 :: b5 :: b6 :: a :: ts) := (List.Perm.cons a h).trans (.trans (.swap ..) (.cons _ (.trans (.swap ..) (.cons _ (.trans (.swap ..) (.cons _ (.trans (.swap ..) (.cons _ (.trans (.swap ..) (.cons _ (.trans (.swap ..) (.cons _ (.swap ..)))))))))))))
theorem pm8 {a b0 b1 b2 b3 b4 b5 b6 b7 : SL} {rs ts : List SL} (h : rs.Perm (b0 :: b1 :: b2 :: b3 :: b4 :: b5 :: b6 :: b7 :: ts)) : (a :: rs).Perm (b0 :: b1 :: b2 :: b3 :: b4 :: b5 :: b6 :: b7 :: a :: ts) := (List.Perm.cons a h).trans (.trans (.swap ..) (.cons _ (.trans (.swap ..) (.cons _ (.trans (.swap ..) (.cons _ (.trans (.swap ..) (.cons _ (.trans (.swap ..) (.cons _ (.trans (.swap ..) (.cons _ (.trans (.swap ..) (.cons _ (.swap ..)))))))))))))))
theorem pm9 {a b0 b1 b2 b3 b4 b5 b6 b7 b8 : SL} {rs ts : List SL} (h : rs.Perm (b0 :: b1 :: b2 :: b3 :: b4 :: b5 :: b6 :: b7 :: b8 :: ts)) : (a :: rs).Perm (b0 :: b1 :: b2 :: b3 :: b4 :: b5 :: b6 :: b7 :: b8 :: a :: ts) := (List.Perm.cons a h).trans (.trans (.swap ..) (.cons _ (.trans (.swap ..) (.cons _ (.trans (.swap ..) (.cons _ (.trans (.swap ..) (.cons _ (.trans (.swap ..) (.cons _ (.trans (.swap ..) (.cons _ (.trans (.swap ..) (.cons _ (.trans (.swap ..) (.cons _ (.swap ..)))))))))))))))))
theorem pm10 {a b0 b1 b2 b3 b4 b5 b6 b7 b8 b9 : SL} {rs ts : List SL} (h : rs.Perm (b0 :: b1 :: b2 :: b3 :: b4 :: b5 :: b6 :: b7 :: b8 :: b9 :: ts)) : (a :: rs).Perm (b0 :: b1 :: b2 :: b3 :: b4 :: b5 :: b6 :: b7 :: b8 :: b9 :: a :: ts) := (List.Perm.cons a h).trans (.trans (.swap ..) (.cons _ (.trans (.swap ..) (.cons _ (.trans (.swap ..) (.cons _ (.trans (.swap ..) (.cons _ (.trans (.swap ..) (.cons _ (.trans (.swap ..) (.cons _ (.trans (.swap ..) (.cons _ (.trans (.swap ..) (.cons _ (.trans (.swap ..) (.cons _ (.swap ..)))))))))))))))))))
theorem pm11 {a b0 b1 b2 b3 b4 b5 b6 b7 b8 b9 b10 : SL} {rs ts : List SL} (h : rs.Perm (b0 :: b1 :: b2 :: b3 :: b4 :: b5 :: b6 :: b7 :: b8 :: b9 :: b10 :: ts)) : (a :: rs).Perm (b0 :: b1 :: b2 :: b3 :: b4 :: b5 :: b6 :: b7 :: b8 :: b9 :: b10 :: a :: ts) := (List.Perm.cons a h).trans (.trans (.swap ..) (.cons _ (.trans (.swap ..) (.cons _ (.trans (.swap ..) (.cons _ (.trans (.swap ..) (.cons _ (.trans (.swap ..) (.cons _ (.trans (.swap ..) (.cons _ (.trans (.swap ..) (.cons _ (.trans (.swap ..) (.cons _ (.trans (.swap ..) (.cons _ (.trans (.swap ..) (.cons _ (.swap ..)))))))))))))))))))))
theorem pm12 {a b0 b1 b2 b3 b4 b5 b6 b7 b8 b9 b10 b11 : SL} {rs ts : List SL} (h : rs.Perm (b0 :: b1 :: b2 :: b3 :: b4 :: b5 :: b6 :: b7 :: b8 :: b9 :: b10 :: b11 :: ts)) : (a :: rs).Perm (b0 :: b1 :: b2 :: b3 :: b4 :: b5 :: b6 :: b7 :: b8 :: b9 :: b10 :: b11 :: a :: ts) := (List.Perm.cons a h).trans (.trans (.swap ..) (.cons _ (.trans (.swap ..) (.cons _ (.trans (.swap ..) (.cons _ (.trans (.swap ..) (.cons _ (.trans (.swap ..) (.cons _ (.trans (.swap ..) (.cons _ (.trans (.swap ..) (.cons _ (.trans (.swap ..) (.cons _ (.trans (.swap ..) (.cons _ (.trans (.swap ..) (.cons _ (.trans (.swap ..) (.cons _ (.swap ..)))))))))))))))))))))))
theorem pm13 {a b0 b1 b2 b3 b4 b5 b6 b7 b8 b9 b10 b11 b12 : SL} {rs ts : List SL} (h : rs.Perm (b0 :: b1 :: b2 :: b3 :: b4 :: b5 :: b6 :: b7 :: b8 :: b9 :: b10 :: b11 :: b12 :: ts)) : (a :: rs).Perm (b0 :: b1 :: b2 :: b3 :: b4 :: b5 :: b6 :: b7 :: b8 :: b9 :: b10 :: b11 :: b12 :: a :: ts) := (List.Perm.cons a h).trans (.trans (.swap ..) (.cons _ (.trans (.swap ..) (.cons _ (.trans (.swap ..) (.cons _ (.trans (.swap ..) (.cons _ (.trans (.swap ..) (.cons _ (.trans (.swap ..) (.cons _ (.trans (.swap ..) (.cons _ (.trans (.swap ..) (.cons _ (.trans (.swap ..) (.cons _ (.trans (.swap ..) (.cons _ (.trans (.swap ..) (.cons _ (.trans (.swap ..) (.cons _ (.swap ..)))))))))))))))))))))))))
section
variable {P : Program} {h : Hp} {K : Value → A} {X Y : A} {rs : List SL}
theorem oneC_cells {v : Value} (h : oneC v = true) : v.cells = #[v] := by cases v <;> first | rfl | simp [oneC] at h
theorem st1S {b o : Nat} {cs : List Value} {v : Value} (H : Hs h (bk b cs :: rs)) (h1 : oneC v = true) (ho : o < cs.length) (k : ∀ h', Hs h' (bk b (cs.set o v) :: rs) → X h') : st 1 (pt b o) v X h := by
  have hc := oneC_cells h1
  refine stS_ H (by rw [hc]; rfl) ho (by rw [hc]; simpa using h1) fun h' H' => k h' ?_
  rw [hc] at H'
  have := splice_cons (cs := cs) (vs := []) (v := v) ho
  rw [splice_nil] at this
  rw [this]; exact H'
theorem stnS {b o n : Nat} {cs vs : List Value} (H : Hs h (bk b cs :: rs)) (hn : vs.length = n) (hl : o + n ≤ cs.length) (h1 : ∀ u ∈ vs, oneC u = true) (k : ∀ h', Hs h' (bk b (splice cs o vs) :: rs) → X h') : st n (pt b o) (.agg vs.toArray) X h :=
  stS_ H (by simpa [Value.cells] using hn) hl (by simpa [Value.cells] using h1) fun h' H' => k h' (by simpa [Value.cells] using H')
theorem splice_all {cs vs : List Value} (h : vs.length = cs.length) : splice cs 0 vs = vs := by simp [splice, h]
/-- a whole block is written. -/
theorem staS {b n : Nat} {cs vs : List Value} (H : Hs h (bk b cs :: rs)) (hn : vs.length = n) (hl : cs.length = n) (h1 : ∀ u ∈ vs, oneC u = true) (k : ∀ h', Hs h' (bk b vs :: rs) → X h') : st n (pt b 0) (.agg vs.toArray) X h :=
  stnS H hn (by omega) h1 fun h' H' => k h' (by rwa [splice_all (by omega)] at H')
theorem ldaS {b n : Nat} {cs : List Value} (H : Hs h (bk b cs :: rs)) (hl : cs.length = n) (k : K (.agg cs.toArray) h) : ldn n (pt b 0) K h :=
  ldnS H cs (by omega) (by rw [List.drop_zero, ← hl, List.take_length]) k
theorem Hs.vecC {z : Nat} {s : Value} {es : List (List Value)} (H : Hs h (Q.vec z s es :: rs)) : oneC s = true := by
  rcases H.vec with ⟨rfl, _, _⟩ | ⟨_, _, _, rfl, _⟩ <;> rfl
theorem Hs.vecOnes {z : Nat} {s : Value} {es : List (List Value)} (H : Hs h (Q.vec z s es :: rs)) : ∀ e ∈ es, ∀ u ∈ e, oneC u = true := by
  rcases H.vec with ⟨_, rfl, _⟩ | ⟨b, c, tl, rfl, hv, H0⟩
  · intro e he; cases he
  · exact hv.ones
theorem slcTail {z i : Nat} {s : Value} {es : List (List Value)} (H : Hs h (vec z s es :: rs)) (hi : i ≤ es.length) :
    ∃ a' c', (∀ K : Value → A, K (.slice a' (es.length - i) c') h → slc z (some (vi i)) none none s K h) ∧ srcOf h z (.slice a' (es.length - i) c') = some ((es.drop i).length, (es.drop i).flatten) := by
  rcases H.vec with ⟨rfl, rfl, _⟩ | ⟨b, c, tl, rfl, hv, H⟩
  · have : i = 0 := by simpa using hi
    subst this
    exact ⟨none, 0, fun K hK => slcN ⟨_, rfl⟩ rfl hK, rfl⟩
  · have fl := flat_len hv.lens
    have hD : (es.drop i).flatten.length = (es.length - i) * z := by
      rw [flat_len fun e' he => hv.lens e' (List.mem_of_mem_drop he), List.length_drop]
    have e3 : i * z ≤ es.length * z := Nat.mul_le_mul_right _ hi
    have e1 : (es.length - i) * z = es.length * z - i * z := Nat.mul_sub_right_distrib ..
    rw [List.length_drop]
    by_cases hjc : i < c
    · refine ⟨some ⟨b, 0 + i * z, none⟩, c - i, fun K hK => slcL (l := i) rfl hi hv.cap hjc hK, srcRd (H.blk.rdAt _ _ ?_ ?_) hD⟩
      · rw [hD, List.length_append, fl]; omega
      · rw [Nat.zero_add, List.drop_append_of_le_length (by rw [fl]; exact e3), flat_drop i hv.lens, List.take_left]
    · have hcap := hv.cap
      have hje : i = es.length := by omega
      refine ⟨some ⟨b, 0, none⟩, c - i, fun K hK => slc_s (l := i) (u := es.length) ⟨_, rfl⟩ rfl hi hv.cap (by rw [if_pos (by omega)]; exact hK), ?_⟩
      have h0 : (es.drop i).flatten = [] := by rw [hje]; simp
      have h00 : es.length - i = 0 := by omega
      rw [h0, h00]
      show (cels h _ 0 (0 * z)).map _ = _
      rw [Nat.zero_mul]; rfl
/-- s[:m:m]. -/
theorem slcCut {z m : Nat} {s : Value} {es : List (List Value)} (H : Hs h (vec z s es :: rs)) (hm : m ≤ es.length) (hm0 : 0 < es.length) (k : ∀ s', Hs h (vec z s' (es.take m) :: rs) → K s' h) : slc z none (some (vi m)) (some (vi m)) s K h := by
  obtain ⟨b, c, tl, rfl, hv, H⟩ := H.vecW (i := 0) hm0
  have hcap := hv.cap
  refine ⟨_, _, _, 0, m, m, rfl, ⟨_, rfl⟩, ⟨_, rfl⟩, rfl, Nat.zero_le _, Nat.le_refl _, by omega, fun _ => rfl, ?_⟩
  have e : (if m = 0 then some (⟨b, 0, none⟩ : Addr) else Option.map (fun x : Addr => x.add (0 * z)) (some ⟨b, 0, none⟩)) = some ⟨b, 0, none⟩ := by
    split
    · rfl
    · simp [add_mk]
  rw [e, Nat.sub_zero]
  refine k _ ?_
  have hs : es.flatten ++ tl = (es.take m).flatten ++ ((es.drop m).flatten ++ tl) := by rw [← List.append_assoc, ← List.flatten_append, List.take_append_drop]
  rw [hs] at H
  have hl : (es.take m).length = m := by rw [List.length_take]; omega
  have := Hs.vec1 (z := z) (es := es.take m) (c := m) ⟨fun e he => hv.lens e (List.mem_of_mem_take he), fun e he => hv.ones e (List.mem_of_mem_take he), by omega, by rw [hl]; omega⟩ H
  rwa [hl] at this
theorem bn_add {a b : Int} {K : Value → A} (h1 : -9223372036854775808 ≤ a + b) (h2 : a + b ≤ 9223372036854775807) (k : K (vi (a + b)) h) : bn .add (vi a) (vi b) K h :=
  bn_s (vi (a + b)) (by simp only [binV, intV, if_true]; rw [w64_id h1 h2]) k
theorem bn_sub {a b : Int} {K : Value → A} (h1 : -9223372036854775808 ≤ a - b) (h2 : a - b ≤ 9223372036854775807) (k : K (vi (a - b)) h) : bn .sub (vi a) (vi b) K h :=
  bn_s (vi (a - b)) (by simp only [binV, intV, if_true]; rw [w64_id h1 h2]) k
/-- the six comparisons, as a choice. -/
theorem cn_lss {a b : Int} {k : IntKind} (h1 : a < b → X h) (h2 : b ≤ a → Y h) : bn .lss (.int k a) (.int k b) (fun v => cn v X Y) h :=
  bn_s (.bool (decide (a < b))) (by simp [binV, intV]) (cn_s (fun e => h1 (of_decide_eq_true e)) fun e => h2 (by have := of_decide_eq_false e; omega))
theorem cn_leq {a b : Int} {k : IntKind} (h1 : a ≤ b → X h) (h2 : b < a → Y h) : bn .leq (.int k a) (.int k b) (fun v => cn v X Y) h :=
  bn_s (.bool (decide (a ≤ b))) (by simp [binV, intV]) (cn_s (fun e => h1 (of_decide_eq_true e)) fun e => h2 (by have := of_decide_eq_false e; omega))
theorem cn_gtr {a b : Int} {k : IntKind} (h1 : b < a → X h) (h2 : a ≤ b → Y h) : bn .gtr (.int k a) (.int k b) (fun v => cn v X Y) h :=
  bn_s (.bool (decide (a > b))) (by simp [binV, intV]) (cn_s (fun e => h1 (of_decide_eq_true e)) fun e => h2 (by have := of_decide_eq_false e; omega))
theorem cn_geq {a b : Int} {k : IntKind} (h1 : b ≤ a → X h) (h2 : a < b → Y h) : bn .geq (.int k a) (.int k b) (fun v => cn v X Y) h :=
  bn_s (.bool (decide (a ≥ b))) (by simp [binV, intV]) (cn_s (fun e => h1 (of_decide_eq_true e)) fun e => h2 (by have := of_decide_eq_false e; omega))
theorem cn_eql {a b : Int} {k : IntKind} (h1 : a = b → X h) (h2 : a ≠ b → Y h) : bn .eql (.int k a) (.int k b) (fun v => cn v X Y) h :=
  bn_s (.bool (a == b)) (by simp [binV, intV]) (cn_s (fun e => h1 (by simpa using e)) fun e => h2 (by simpa using e))
theorem cn_neq {a b : Int} {k : IntKind} (h1 : a ≠ b → X h) (h2 : a = b → Y h) : bn .neq (.int k a) (.int k b) (fun v => cn v X Y) h :=
  bn_s (.bool (a != b)) (by simp [binV, intV]) (cn_s (fun e => h1 (by simpa using e)) fun e => h2 (by simpa using e))
end
def It.ok (x : It) : Prop := x.2.length = 4 ∧ ∀ u ∈ x.2, oneC u = true
theorem It.ok_c {x : It} (h : x.ok) : x.c.length = 5 ∧ ∀ u ∈ x.c, oneC u = true := by
  refine ⟨by simp [It.c, h.1], fun u hu => ?_⟩
  rcases List.mem_cons.1 hu with rfl | hu
  · rfl
  · exact h.2 u hu
theorem Hs.itOk {h : Hp} {s : Value} {its : List It} {rs : List SL} (H : Hs h (Q.vec 5 s (its.map It.c) :: rs)) : ∀ x ∈ its, x.ok := by
  intro x hx
  have h1 := H.vecLen x.c (List.mem_map_of_mem hx)
  have h2 := H.vecOnes x.c (List.mem_map_of_mem hx)
  exact ⟨by simpa [It.c] using h1, fun u hu => h2 u (List.mem_cons_of_mem _ hu)⟩
abbrev zero4 : List Value := [.bool false, nilS, vi 0, vu 0]
/-- a kid's pointer. -/
abbrev kpt (q : Nat × List It) : List Value := [pt q.1 0]
def T386 (n_a0 old_2 : Value) (R : Value → A) (had_66 : Value) : A :=
 nc n_a0 fun v67 =>
 fa v67 0 fun v68 =>
 ld1 v68 fun v69 =>
 lnS v69 fun v70 =>
 bn .leq v70 (Value.int IntKind.i64 5) fun v71 =>
 cn v71
 (ldn 4 old_2 fun v72 =>
  st 4 old_2 v72 <|
  ldn 4 old_2 fun v73 => R (Value.tuple #[v73, had_66, Value.pointer none, Value.pointer none]))
 (nc n_a0 fun v74 =>
 fa v74 0 fun v75 =>
 ld1 v75 fun v76 =>
 ixs 5 v76 (Value.int IntKind.i64 2) fun v77 =>
 ldn 5 v77 fun v78 =>
 al [Value.string { data := #[] }, Value.bool false, Value.slice none 0 0, Value.int IntKind.i64 0, Value.int IntKind.u64 0] 506 fun m_79 =>
 st 5 m_79 v78 <|
 nc n_a0 fun v80 =>
 fa v80 0 fun v81 =>
 ld1 v81 fun v82 =>
 slc 5 (some (Value.int IntKind.i64 3)) none none v82 fun v83 =>
 cl Tryz.prog 426 [v83] fun v84 =>
 bd [Value.slice none 0 0, Value.slice none 0 0] [(0, 1, v84)] fun v85 =>
 bx 403 v85 fun v86 =>
 nc n_a0 fun v87 =>
 fa v87 0 fun v88 =>
 ld1 v88 fun v89 =>
 slc 5 none (some (Value.int IntKind.i64 2)) (some (Value.int IntKind.i64 2)) v89 fun v90 =>
 nc n_a0 fun v91 =>
 fa v91 0 fun v92 =>
 st 1 v92 v90 <|
 jn 0 (fun k93 =>
 nc n_a0 fun v94 =>
  fa v94 1 fun v95 =>
  ld1 v95 fun v96 =>
  lnS v96 fun v97 =>
  bn .gtr v97 (Value.int IntKind.i64 0) fun v98 =>
  cn v98
  (nc n_a0 fun v99 =>
   fa v99 1 fun v100 =>
   ld1 v100 fun v101 =>
   slc 1 (some (Value.int IntKind.i64 3)) none none v101 fun v102 =>
   cl Tryz.prog 427 [v102] fun v103 =>
   nc v86 fun v104 =>
   fa v104 1 fun v105 =>
   st 1 v105 v103 <|
   nc n_a0 fun v106 =>
   fa v106 1 fun v107 =>
   ld1 v107 fun v108 =>
   slc 1 none (some (Value.int IntKind.i64 3)) (some (Value.int IntKind.i64 3)) v108 fun v109 =>
   nc n_a0 fun v110 =>
   fa v110 1 fun v111 =>
   st 1 v111 v109 <|
   k93)
  (k93))
 (fun _ =>
 ldn 4 old_2 fun v112 =>
  st 4 old_2 v112 <|
  ldn 4 old_2 fun v113 => R (Value.tuple #[v113, had_66, m_79, v86])))
def F386 (n_a0 x_1 old_2 v6 : Value) (R : Value → A) : A :=
 nc n_a0 fun v9 =>
   fa v9 0 fun v10 =>
   ld1 v10 fun v11 =>
   ixs 5 v11 v6 fun v12 =>
   fa v12 1 fun v13 =>
   ldn 4 v13 fun v14 =>
   st 4 old_2 v14 <|
   nc n_a0 fun v15 =>
   fa v15 0 fun v16 =>
   ld1 v16 fun v17 =>
   fa x_1 1 fun v18 =>
   ldn 4 v18 fun v19 =>
   ixs 5 v17 v6 fun v20 =>
   fa v20 1 fun v21 =>
   st 4 v21 v19 <|
   ldn 4 old_2 fun v22 =>
   st 4 old_2 v22 <|
   ldn 4 old_2 fun v23 => R (Value.tuple #[v23, Value.bool true, Value.pointer none, Value.pointer none])
def L386 (n_a0 x_1 v6 : Value) (k8 : Cur 1) : A :=
 nc n_a0 fun v29 =>
    fa v29 0 fun v30 =>
    ld1 v30 fun v31 =>
    ldn 5 x_1 fun v32 =>
    bsl [Value.string { data := #[] }, Value.bool false, Value.slice none 0 0, Value.int IntKind.i64 0, Value.int IntKind.u64 0] 506 1 [(0, 5, v32)] fun v33 =>
    an2 (ld1 v30 (fun u _ => u = v31)) <|
    cl Tryz.prog 424 [v31, v6, v33] fun v34 =>
    nc n_a0 fun v35 =>
    fa v35 0 fun v36 =>
    st 1 v36 v34 <|
    k8 (Value.bool false)
def S386 (n_a0 v6 v45 v46 v47 : Value) (k8 : Cur 1) : A :=
 nc n_a0 fun v49 =>
     fa v49 0 fun v50 =>
     ld1 v50 fun v51 =>
     nc v46 fun v52 =>
     ldn 5 v52 fun v53 =>
     bsl [Value.string { data := #[] }, Value.bool false, Value.slice none 0 0, Value.int IntKind.i64 0, Value.int IntKind.u64 0] 506 1 [(0, 5, v53)] fun v54 =>
     an2 (ld1 v50 (fun u _ => u = v51)) <|
     cl Tryz.prog 424 [v51, v6, v54] fun v55 =>
     nc n_a0 fun v56 =>
     fa v56 0 fun v57 =>
     st 1 v57 v55 <|
     nc n_a0 fun v58 =>
     fa v58 1 fun v59 =>
     ld1 v59 fun v60 =>
     bn .add v6 (Value.int IntKind.i64 1) fun v61 =>
     bsl [Value.pointer none] 399 1 [(0, 1, v47)] fun v62 =>
     cl Tryz.prog 425 [v60, v61, v62] fun v63 =>
     nc n_a0 fun v64 =>
     fa v64 1 fun v65 =>
     st 1 v65 v63 <|
     k8 v45
def K386 (n_a0 x_1 old_2 v6 : Value) (k8 : Cur 1) : A :=
 nc n_a0 fun v37 =>
    fa v37 1 fun v38 =>
    ld1 v38 fun v39 =>
    ixs 1 v39 v6 fun v40 =>
    ld1 v40 fun v41 =>
    ldn 5 x_1 fun v42 =>
    cl Tryz.prog 386 [v41, v42] fun v43 =>
    ex 0 v43 fun v44 =>
    ex 1 v43 fun v45 =>
    ex 2 v43 fun v46 =>
    ex 3 v43 fun v47 =>
    st 4 old_2 v44 <|
    be Tryz.prog 556 true v46 (Value.pointer none) fun v48 =>
    cn v48
    (nc n_a0 fun v49 =>
     fa v49 0 fun v50 =>
     ld1 v50 fun v51 =>
     nc v46 fun v52 =>
     ldn 5 v52 fun v53 =>
     bsl [Value.string { data := #[] }, Value.bool false, Value.slice none 0 0, Value.int IntKind.i64 0, Value.int IntKind.u64 0] 506 1 [(0, 5, v53)] fun v54 =>
     an2 (ld1 v50 (fun u _ => u = v51)) <|
     cl Tryz.prog 424 [v51, v6, v54] fun v55 =>
     nc n_a0 fun v56 =>
     fa v56 0 fun v57 =>
     st 1 v57 v55 <|
     nc n_a0 fun v58 =>
     fa v58 1 fun v59 =>
     ld1 v59 fun v60 =>
     bn .add v6 (Value.int IntKind.i64 1) fun v61 =>
     bsl [Value.pointer none] 399 1 [(0, 1, v47)] fun v62 =>
     cl Tryz.prog 425 [v60, v61, v62] fun v63 =>
     nc n_a0 fun v64 =>
     fa v64 1 fun v65 =>
     st 1 v65 v63 <|
     k8 v45)
    (k8 v45)
theorem t386 {h : Hp} {rs : List SL} {p old : Nat} {si sk : Value} {its : List It} {qs : List (Nat × List It)} {oc : List Value} {R : Value → A} {had : Value}
    (H : Hs h (bk p [si, sk] :: vec 5 si (its.map It.c) :: vec 1 sk (qs.map kpt) :: bk old oc :: rs)) (ho : oc.length = 4) (ho1 : ∀ u ∈ oc, oneC u = true)
    (hl : its.length ≤ 6) (hq : qs = [] ∨ qs.length = its.length + 1)
    (k1 : its.length ≤ 5 → ∀ h', Hs h' (bk p [si, sk] :: vec 5 si (its.map It.c) :: vec 1 sk (qs.map kpt) :: rs) → R (.tuple #[.agg oc.toArray, had, .pointer none, .pointer none]) h')
    (k2 : its.length = 6 → ∀ h' m r si' sk' sr kr (x : It), its[2]? = some x → x.ok → Hs h' (bk p [si', sk'] :: vec 5 si' ((its.take 2).map It.c) :: vec 1 sk' ((qs.take 3).map kpt) :: bk r [sr, kr] :: vec 5 sr ((its.drop 3).map It.c) :: vec 1 kr ((qs.drop 3).map kpt) :: bk m x.c :: rs) →
      R (.tuple #[.agg oc.toArray, had, pt m 0, pt r 0]) h') : T386 (pt p 0) (pt old 0) R had h := by
  unfold T386
  refine nc_s (fa_s (ld1S H si rfl (lnV H.p1 ?_)))
  rw [List.length_map]
  refine cn_leq (fun hle => ?_) fun hlt => ?_
  · refine ldaS H.p3 ho (staS H.p3 ho ho ho1 fun h' H' => ldaS H' ho (k1 (by omega) h' H'.drop))
  · have h6 : its.length = 6 := by omega
    have h2 : 2 < (its.map It.c).length := by rw [List.length_map]; omega
    have h2' : 2 < its.length := by omega
    have hok0 := H.p1.itOk its[2] (List.getElem_mem h2')
    have hok := It.ok_c hok0
    refine nc_s (fa_s (ld1S H si rfl (ixV H.p1 2 rfl h2 fun b hrd => ldnR hrd (by simpa using hok.1.symm) ?_)))
    rw [List.getElem_map]
    refine alS H fun m h H => staS H hok.1 rfl hok.2 fun h H => nc_s (fa_s (ld1S H.p1 si rfl ?_))
    obtain ⟨a', c', hs, hsrc⟩ := slcTail (i := 3) H.p2 (by rw [List.length_map]; omega)
    refine hs _ (cl_s b426 (s426 H hsrc ?_ ?_ ?_) fun s1 h H => ?_)
    · exact fun e he => H.p2.vecLen e (List.mem_of_mem_drop he)
    · exact fun e he => H.p2.vecOnes e (List.mem_of_mem_drop he)
    · simp; omega
    have o1 := H.vecC
    have c1 := oneC_cells o1
    refine bd_s [s1, nilS] (by simp [fill2, c1]) (bxS H fun r h H => ?_)
    have H : Hs h (bk r [s1, nilS] :: vec 5 s1 (List.drop 3 (its.map It.c)) :: bk m its[2].c :: bk p [si, sk] :: vec 5 si (its.map It.c) :: vec 1 sk (qs.map kpt) :: bk old oc :: rs) := H
    refine nc_s (fa_s (ld1S H.p3 si rfl (slcCut (m := 2) H.p4 (by rw [List.length_map]; omega) (by rw [List.length_map]; omega) fun s2 H => ?_)))
    refine nc_s (fa_s (st1S H.p4 H.vecC (by simp) fun h H => ?_))
    have H : Hs h (bk p [s2, sk] :: vec 5 s2 ((its.map It.c).take 2) :: bk r [s1, nilS] :: vec 5 s1 (List.drop 3 (its.map It.c)) :: bk m its[2].c :: vec 1 sk (qs.map kpt) :: bk old oc :: rs) := H
    rw [← List.map_take, ← List.map_drop] at H
    intro k93 hk93
    have fin : ∀ (h' : Hp) (sk' kr : Value), Hs h' (bk p [s2, sk'] :: vec 5 s2 ((its.take 2).map It.c) :: vec 1 sk' ((qs.take 3).map kpt) :: bk r [s1, kr] :: vec 5 s1 ((its.drop 3).map It.c) :: vec 1 kr ((qs.drop 3).map kpt) :: bk m its[2].c :: bk old oc :: rs) → k93 h' := by
      intro h' sk' kr H'
      refine hk93 h' fun σ0 => ldaS H'.p7 ho (staS H'.p7 ho ho ho1 fun h' H' => ldaS H' ho (k2 h6 h' m r s2 sk' s1 kr its[2] (List.getElem?_eq_getElem h2') hok0 H'.drop))
    refine nc_s (fa_s (ld1S H sk rfl (lnV H.p5 ?_)))
    rw [List.length_map]
    refine cn_gtr (fun hgt => ?_) fun hle => ?_
    · have hq7 : qs.length = 7 := by
        rcases hq with rfl | hq
        · simp at hgt
        · omega
      refine nc_s (fa_s (ld1S H sk rfl ?_))
      obtain ⟨a', c', hs, hsrc⟩ := slcTail (i := 3) H.p5 (by rw [List.length_map]; omega)
      refine hs _ (cl_s b427 (s427 H hsrc ?_ ?_ ?_) fun s3 h H => ?_)
      · exact fun e he => H.p5.vecLen e (List.mem_of_mem_drop he)
      · exact fun e he => H.p5.vecOnes e (List.mem_of_mem_drop he)
      · simp; omega
      rw [← List.map_drop] at H
      refine nc_s (fa_s (st1S H.p3 H.vecC (by simp) fun h H => ?_))
      refine nc_s (fa_s (ld1S H.p2 sk rfl (slcCut (m := 3) H.p6 (by rw [List.length_map]; omega) (by rw [List.length_map]; omega) fun s4 H => ?_)))
      refine nc_s (fa_s (st1S H.p3 H.vecC (by simp) fun h H => fin h s4 s3 ?_))
      rw [← List.map_take] at H
      have H : Hs h (bk p [s2, s4] :: vec 1 s4 ((qs.take 3).map kpt) :: bk r [s1, s3] :: vec 1 s3 ((qs.drop 3).map kpt) :: vec 5 s2 ((its.take 2).map It.c) :: vec 5 s1 ((its.drop 3).map It.c) :: bk m its[2].c :: bk old oc :: rs) := H
      exact H.perm (by repeat (first | with_reducible exact List.Perm.refl _ | with_reducible refine pm0 ?_ | with_reducible refine pm1 ?_ | with_reducible refine pm2 ?_ | with_reducible refine pm3 ?_ | with_reducible refine pm4 ?_ | with_reducible refine pm5 ?_ | with_reducible refine pm6 ?_ | with_reducible refine pm7 ?_ | with_reducible refine pm8 ?_ | with_reducible refine pm9 ?_ | with_reducible refine pm10 ?_ | with_reducible refine pm11 ?_ | with_reducible refine pm12 ?_ | with_reducible refine pm13 ?_))
    · have hq0 : qs = [] := List.eq_nil_of_length_eq_zero (by omega)
      subst hq0
      refine fin h sk nilS ?_
      have H : Hs h (vec 1 nilS [] :: bk p [s2, sk] :: vec 5 s2 ((its.take 2).map It.c) :: bk r [s1, nilS] :: vec 5 s1 ((its.drop 3).map It.c) :: bk m its[2].c :: vec 1 sk [] :: bk old oc :: rs) := Hs.vec0 (z := 1) H
      show Hs h (bk p [s2, sk] :: vec 5 s2 ((its.take 2).map It.c) :: vec 1 sk [] :: bk r [s1, nilS] :: vec 5 s1 ((its.drop 3).map It.c) :: vec 1 nilS [] :: bk m its[2].c :: bk old oc :: rs)
      exact H.perm (by repeat (first | with_reducible exact List.Perm.refl _ | with_reducible refine pm0 ?_ | with_reducible refine pm1 ?_ | with_reducible refine pm2 ?_ | with_reducible refine pm3 ?_ | with_reducible refine pm4 ?_ | with_reducible refine pm5 ?_ | with_reducible refine pm6 ?_ | with_reducible refine pm7 ?_ | with_reducible refine pm8 ?_ | with_reducible refine pm9 ?_ | with_reducible refine pm10 ?_ | with_reducible refine pm11 ?_ | with_reducible refine pm12 ?_ | with_reducible refine pm13 ?_))
/-- a node with its kids. -/
def node (mn p : Nat) (kvs : List It) (sh : List It → List (Nat × List It) → Prop) (kr : List (Nat × List It) → SL) : SL :=
  exS fun s : Value × Value × List It × List (Nat × List It) => puS (mn ≤ s.2.2.1.length ∧ s.2.2.1.length ≤ 5 ∧ sh s.2.2.1 s.2.2.2)
    (sep [bk p [s.1, s.2.1], vec 5 s.1 (s.2.2.1.map It.c), vec 1 s.2.1 (s.2.2.2.map kpt), kr s.2.2.2])
def nfit (d : Nat) (kvs : List It) (its : List It) (qs : List (Nat × List It)) : Prop :=
  match d with
  | 0 => qs = [] ∧ kvs = its
  | _ + 1 => qs.length = its.length + 1 ∧ kvs = inter (qs.map (·.2)) its
def ndR : Nat → Nat → Nat → List It → SL
  | 0, mn, p, kvs => node mn p kvs (nfit 0 kvs) fun _ => emS
  | d + 1, mn, p, kvs => node mn p kvs (nfit (d + 1) kvs) fun qs => sep (qs.map fun q => ndR d 2 q.1 q.2)
def kf (d : Nat) (q : Nat × List It) : SL := ndR d 2 q.1 q.2
def kids : Nat → List (Nat × List It) → SL
  | 0, _ => emS
  | d + 1, qs => sep (qs.map (kf d))
theorem ndR_eq (d mn p : Nat) (kvs : List It) : ndR d mn p kvs = node mn p kvs (nfit d kvs) (kids d) := by
  cases d with
  | zero => rw [ndR]; rfl
  | succ d => rw [ndR]; rfl
theorem Hs.nd {h : Hp} {d mn p : Nat} {kvs : List It} {rs : List SL} : Hs h (ndR d mn p kvs :: rs) ↔
    ∃ si sk its qs, mn ≤ its.length ∧ its.length ≤ 5 ∧ nfit d kvs its qs ∧ Hs h (bk p [si, sk] :: Q.vec 5 si (its.map It.c) :: Q.vec 1 sk (qs.map kpt) :: kids d qs :: rs) := by
  rw [ndR_eq]
  constructor
  · intro H
    obtain ⟨⟨si, sk, its, qs⟩, H⟩ := Hs.ex.1 H
    obtain ⟨⟨h1, h2, h3⟩, H⟩ := Hs.pu.1 H
    exact ⟨si, sk, its, qs, h1, h2, h3, Hs.join.1 H⟩
  · rintro ⟨si, sk, its, qs, h1, h2, h3, H⟩
    exact Hs.ex.2 ⟨(si, sk, its, qs), Hs.pu.2 ⟨⟨h1, h2, h3⟩, Hs.join.2 H⟩⟩
theorem sep_mid {α : Type} {h : Hp} {f : α → SL} {a b : List α} {q : α} {rs : List SL} : Hs h (sep ((a ++ q :: b).map f) :: rs) ↔ Hs h (f q :: sep (a.map f) :: sep (b.map f) :: rs) := by
  rw [List.map_append, List.map_cons]
  constructor
  · intro H
    have H : Hs h (stS (sep (a.map f)) (stS (f q) (sep (b.map f))) :: rs) := H.imp fun F => (sep_app (a.map f) (f q :: b.map f) F).1
    exact (Hs.st.1 (Hs.st.1 H).p1).perm (by repeat (first | with_reducible exact List.Perm.refl _ | with_reducible refine pm0 ?_ | with_reducible refine pm1 ?_ | with_reducible refine pm2 ?_ | with_reducible refine pm3 ?_ | with_reducible refine pm4 ?_ | with_reducible refine pm5 ?_ | with_reducible refine pm6 ?_ | with_reducible refine pm7 ?_ | with_reducible refine pm8 ?_ | with_reducible refine pm9 ?_ | with_reducible refine pm10 ?_ | with_reducible refine pm11 ?_ | with_reducible refine pm12 ?_ | with_reducible refine pm13 ?_))
  · intro H
    have H : Hs h (stS (f q) (sep (b.map f)) :: sep (a.map f) :: rs) := Hs.st.2 (H.perm (by repeat (first | with_reducible exact List.Perm.refl _ | with_reducible refine pm0 ?_ | with_reducible refine pm1 ?_ | with_reducible refine pm2 ?_ | with_reducible refine pm3 ?_ | with_reducible refine pm4 ?_ | with_reducible refine pm5 ?_ | with_reducible refine pm6 ?_ | with_reducible refine pm7 ?_ | with_reducible refine pm8 ?_ | with_reducible refine pm9 ?_ | with_reducible refine pm10 ?_ | with_reducible refine pm11 ?_ | with_reducible refine pm12 ?_ | with_reducible refine pm13 ?_)))
    exact (Hs.st.2 H.p1).imp fun F => (sep_app (a.map f) (f q :: b.map f) F).2
theorem nfit_rise {d : Nat} {kvs its : List It} {qs : List (Nat × List It)} (hs : nfit d kvs its qs) (hr : RiseI kvs) : RiseI its := by
  cases d with
  | zero => obtain ⟨_, rfl⟩ := hs; exact hr
  | succ d => obtain ⟨h1, rfl⟩ := hs; exact (inter_items (by simpa using h1) hr).1
/-- before and behind a place. -/
theorem nfit_cut {d i : Nat} {kvs its : List It} {qs : List (Nat × List It)} (hs : nfit (d + 1) kvs its qs) (hi : i ≤ its.length) :
    ∃ q, qs = qs.take i ++ q :: qs.drop (i + 1) ∧ qs[i]? = some q ∧ kvs = preI ((qs.take i).map (·.2)) (its.take i) ++ q.2 ++ postI (its.drop i) ((qs.drop (i + 1)).map (·.2)) := by
  obtain ⟨h1, rfl⟩ := hs
  have hq : i < qs.length := by omega
  have e1 : qs = qs.take i ++ qs[i] :: qs.drop (i + 1) := by
    conv => lhs; rw [← List.take_append_drop i qs, List.drop_eq_getElem_cons hq]
  refine ⟨qs[i], e1, List.getElem?_eq_getElem hq, ?_⟩
  conv => lhs; rw [e1, ← List.take_append_drop i its]
  rw [List.map_append, List.map_cons]
  exact inter_split (by simp; omega) (by simp; omega)
theorem nfit_set {d i : Nat} {its : List It} {qs : List (Nat × List It)} (hl : qs.length = its.length + 1) (hi : i ≤ its.length) (q : Nat × List It) :
    nfit (d + 1) (preI ((qs.take i).map (·.2)) (its.take i) ++ q.2 ++ postI (its.drop i) ((qs.drop (i + 1)).map (·.2))) its (qs.take i ++ q :: qs.drop (i + 1)) := by
  refine ⟨by simp; omega, ?_⟩
  rw [List.map_append, List.map_cons]
  conv => rhs; rw [← List.take_append_drop i its]
  exact (inter_split (by simp; omega) (by simp; omega)).symm
theorem nfit_bounds {d i : Nat} {k : ByteArray} {kvs its : List It} {qs : List (Nat × List It)} (hs : nfit (d + 1) kvs its qs) (hr : RiseI kvs) (hi : i ≤ its.length) :
    ((∀ y ∈ its.take i, bl y.1 k = true) → ∀ y ∈ preI ((qs.take i).map (·.2)) (its.take i), bl y.1 k = true) ∧
    ((∀ y ∈ its.drop i, bl k y.1 = true) → ∀ y ∈ postI (its.drop i) ((qs.drop (i + 1)).map (·.2)), bl k y.1 = true) := by
  obtain ⟨q, h1, h2, h3⟩ := nfit_cut hs hi
  have hl := hs.1
  rw [h3] at hr
  obtain ⟨r1, r2, _⟩ := RiseI_app.1 hr
  obtain ⟨r3, r4, _⟩ := RiseI_app.1 r1
  exact ⟨preI_lt r3 (by simp; omega), postI_gt r2 (by simp; omega)⟩
/-- an item of the node has the key. -/
theorem nfit_found {d i : Nat} {k : ByteArray} {w : List Value} {kvs its : List It} {qs : List (Nat × List It)} (hs : nfit d kvs its qs) (hr : RiseI kvs)
    (h1 : its = its.take i ++ (k, w) :: its.drop (i + 1)) (hi : i < its.length) (h2 : ∀ y ∈ its.take i, bl y.1 k = true) (h3 : ∀ y ∈ its.drop (i + 1), bl k y.1 = true) :
    ∃ A B, kvs = A ++ (k, w) :: B ∧ (∀ y ∈ A, bl y.1 k = true) ∧ (∀ y ∈ B, bl k y.1 = true) ∧ ∀ x : It, nfit d (A ++ x :: B) (its.take i ++ x :: its.drop (i + 1)) qs := by
  cases d with
  | zero =>
    obtain ⟨rfl, rfl⟩ := hs
    exact ⟨_, _, h1, h2, h3, fun x => ⟨rfl, rfl⟩⟩
  | succ d =>
    have hl := hs.1
    have e1 : qs = qs.take (i + 1) ++ qs.drop (i + 1) := (List.take_append_drop ..).symm
    have cut : ∀ x : It, inter (qs.map (·.2)) (its.take i ++ x :: its.drop (i + 1)) = inter ((qs.take (i + 1)).map (·.2)) (its.take i) ++ x :: inter ((qs.drop (i + 1)).map (·.2)) (its.drop (i + 1)) := by
      intro x
      conv => lhs; rw [e1, List.map_append]
      exact inter_cut (by simp; omega)
    have hk : kvs = inter ((qs.take (i + 1)).map (·.2)) (its.take i) ++ (k, w) :: inter ((qs.drop (i + 1)).map (·.2)) (its.drop (i + 1)) := by
      rw [hs.2, ← cut, ← h1]
    have hr' := hr
    rw [hk] at hr'
    obtain ⟨_, r2, r3⟩ := RiseI_app.1 hr'
    refine ⟨_, _, hk, fun y hy => r3 y hy (k, w) (List.mem_cons_self ..), (RiseI_cons.1 r2).1, fun x => ⟨?_, (cut x).symm⟩⟩
    simp; omega
theorem kids_app {h : Hp} {d : Nat} {a b : List (Nat × List It)} {rs : List SL} : Hs h (kids d (a ++ b) :: rs) ↔ Hs h (kids d a :: kids d b :: rs) := by
  cases d with
  | zero => simp only [kids, Hs.em]
  | succ d =>
    simp only [kids, List.map_append]
    exact ⟨fun H => Hs.st.1 (H.imp fun F => (sep_app _ _ F).1), fun H => (Hs.st.2 H).imp fun F => (sep_app _ _ F).2⟩
theorem nfit_split {d : Nat} {kvs its : List It} {qs : List (Nat × List It)} {x : It} {j : Nat} (hs : nfit d kvs its qs) (hx : its[j]? = some x) :
    ∃ a b, kvs = a ++ x :: b ∧ nfit d a (its.take j) (qs.take (j + 1)) ∧ nfit d b (its.drop (j + 1)) (qs.drop (j + 1)) := by
  obtain ⟨hj, rfl⟩ := List.getElem?_eq_some_iff.1 hx
  have e : its = its.take j ++ its[j] :: its.drop (j + 1) := by
    conv => lhs; rw [← List.take_append_drop j its, List.drop_eq_getElem_cons hj]
  cases d with
  | zero =>
    obtain ⟨rfl, rfl⟩ := hs
    exact ⟨_, _, e, ⟨by simp, rfl⟩, ⟨by simp, rfl⟩⟩
  | succ d =>
    obtain ⟨hl, rfl⟩ := hs
    refine ⟨_, _, ?_, ⟨by simp; omega, rfl⟩, ⟨by simp; omega, rfl⟩⟩
    conv => lhs; rw [e, ← List.take_append_drop (j + 1) qs, List.map_append]
    exact inter_cut (by simp; omega)
/-- what a put comes to. -/
def PutPost (d mn p : Nat) (kvs : List It) (old : List Value) (had : Bool) (rs : List SL) (r : Value) (h' : Hp) : Prop :=
  (r = .tuple #[.agg old.toArray, .bool had, .pointer none, .pointer none] ∧ Hs h' (ndR d mn p kvs :: rs)) ∨
  (∃ m q x a b, r = .tuple #[.agg old.toArray, .bool had, pt m 0, pt q 0] ∧ kvs = a ++ x :: b ∧ x.ok ∧ Hs h' (ndR d 2 p a :: ndR d 2 q b :: bk m x.c :: rs))
theorem u386 {h : Hp} {rs : List SL} {d mn p old : Nat} {si sk : Value} {kvs its : List It} {qs : List (Nat × List It)} {oc : List Value} {R : Value → A} {had : Bool}
    (H : Hs h (bk p [si, sk] :: vec 5 si (its.map It.c) :: vec 1 sk (qs.map kpt) :: kids d qs :: bk old oc :: rs)) (ho : oc.length = 4) (ho1 : ∀ u ∈ oc, oneC u = true)
    (hs : nfit d kvs its qs) (hm : mn ≤ its.length) (hl : its.length ≤ 6) (k : ∀ r h', PutPost d mn p kvs oc had rs r h' → R r h') : T386 (pt p 0) (pt old 0) R (.bool had) h := by
  refine t386 (rs := kids d qs :: rs) (H.perm (by repeat (first | with_reducible exact List.Perm.refl _ | with_reducible refine pm0 ?_ | with_reducible refine pm1 ?_ | with_reducible refine pm2 ?_ | with_reducible refine pm3 ?_ | with_reducible refine pm4 ?_ | with_reducible refine pm5 ?_ | with_reducible refine pm6 ?_ | with_reducible refine pm7 ?_ | with_reducible refine pm8 ?_ | with_reducible refine pm9 ?_ | with_reducible refine pm10 ?_ | with_reducible refine pm11 ?_ | with_reducible refine pm12 ?_ | with_reducible refine pm13 ?_))) ho ho1 hl ?_ ?_ ?_
  · cases d with
    | zero => exact .inl hs.1
    | succ d => exact .inr hs.1
  · intro h5 h' H'
    exact k _ _ (.inl ⟨rfl, Hs.nd.2 ⟨si, sk, its, qs, hm, h5, hs, H'⟩⟩)
  · intro h6 h' m r si' sk' sr kr x hx hxo H'
    obtain ⟨a, b, e, s1, s2⟩ := nfit_split hs hx
    refine k _ _ (.inr ⟨m, r, x, a, b, rfl, e, hxo, Hs.nd.2 ⟨si', sk', its.take 2, qs.take 3, ?_, ?_, s1, ?_⟩⟩)
    · simp; omega
    · simp; omega
    have H' := H'.perm (rs' := kids d qs :: bk p [si', sk'] :: vec 5 si' ((its.take 2).map It.c) :: vec 1 sk' ((qs.take 3).map kpt) :: bk r [sr, kr] :: vec 5 sr ((its.drop 3).map It.c) :: vec 1 kr ((qs.drop 3).map kpt) :: bk m x.c :: rs) (by repeat (first | with_reducible exact List.Perm.refl _ | with_reducible refine pm0 ?_ | with_reducible refine pm1 ?_ | with_reducible refine pm2 ?_ | with_reducible refine pm3 ?_ | with_reducible refine pm4 ?_ | with_reducible refine pm5 ?_ | with_reducible refine pm6 ?_ | with_reducible refine pm7 ?_ | with_reducible refine pm8 ?_ | with_reducible refine pm9 ?_ | with_reducible refine pm10 ?_ | with_reducible refine pm11 ?_ | with_reducible refine pm12 ?_ | with_reducible refine pm13 ?_))
    rw [← List.take_append_drop 3 qs, kids_app] at H'
    rw [List.take_append_drop] at H'
    have H' := H'.perm (rs' := bk r [sr, kr] :: vec 5 sr ((its.drop 3).map It.c) :: vec 1 kr ((qs.drop 3).map kpt) :: kids d (qs.drop 3) :: bk p [si', sk'] :: vec 5 si' ((its.take 2).map It.c) :: vec 1 sk' ((qs.take 3).map kpt) :: kids d (qs.take 3) :: bk m x.c :: rs) (by repeat (first | with_reducible exact List.Perm.refl _ | with_reducible refine pm0 ?_ | with_reducible refine pm1 ?_ | with_reducible refine pm2 ?_ | with_reducible refine pm3 ?_ | with_reducible refine pm4 ?_ | with_reducible refine pm5 ?_ | with_reducible refine pm6 ?_ | with_reducible refine pm7 ?_ | with_reducible refine pm8 ?_ | with_reducible refine pm9 ?_ | with_reducible refine pm10 ?_ | with_reducible refine pm11 ?_ | with_reducible refine pm12 ?_ | with_reducible refine pm13 ?_))
    have H2 : Hs h' (ndR d 2 r b :: bk p [si', sk'] :: vec 5 si' ((its.take 2).map It.c) :: vec 1 sk' ((qs.take 3).map kpt) :: kids d (qs.take 3) :: bk m x.c :: rs) := Hs.nd.2 ⟨sr, kr, its.drop 3, qs.drop 3, by simp; omega, by simp; omega, s2, H'⟩
    exact H2.perm (by repeat (first | with_reducible exact List.Perm.refl _ | with_reducible refine pm0 ?_ | with_reducible refine pm1 ?_ | with_reducible refine pm2 ?_ | with_reducible refine pm3 ?_ | with_reducible refine pm4 ?_ | with_reducible refine pm5 ?_ | with_reducible refine pm6 ?_ | with_reducible refine pm7 ?_ | with_reducible refine pm8 ?_ | with_reducible refine pm9 ?_ | with_reducible refine pm10 ?_ | with_reducible refine pm11 ?_ | with_reducible refine pm12 ?_ | with_reducible refine pm13 ?_))
theorem und556 : Tryz.prog.underlying 556 = some (.pointer 506) := by kernel_rfl
theorem Pos_le {its : List It} {k : ByteArray} {i : Nat} (h : Pos (its.map (·.1)) k i) : i ≤ its.length := by simpa using h.le
def PutR (d mn p : Nat) (kvs : List It) (k : ByteArray) (v : List Value) (rs : List SL) (r : Value) : A := fun h' =>
  It.ok (k, (val k kvs).getD zero4) ∧ PutPost d mn p (ins k v kvs) ((val k kvs).getD zero4) (val k kvs).isSome rs r h'
theorem f386 {d : Nat} {h : Hp} {rs : List SL} {mn p i x old : Nat} {kvs its : List It} {qs : List (Nat × List It)} {si sk : Value} {k : ByteArray} {v : List Value} (hv : It.ok (k, v)) (hr : RiseI kvs) (h1 : mn ≤ its.length) (h2 : its.length ≤ 5) (hs : nfit d kvs its qs) (hri : RiseI its) (hp : Pos (its.map (·.1)) k i) (hf : (its.map (·.1))[i]? = some k)
    (H : Hs h (bk p [si, sk] :: vec 5 si (its.map It.c) :: bk old zero4 :: bk x (It.c (k, v)) :: vec 1 sk (qs.map kpt) :: kids d qs :: rs)) : F386 (pt p 0) (pt x 0) (pt old 0) (vi i) (PutR d mn p kvs k v rs) h := by
  obtain ⟨hv5, hv1⟩ := It.ok_c hv
  obtain ⟨hlo, hil, hcase⟩ := pos_split hri hp
  unfold F386
  obtain ⟨w, _, e, hw, hhi⟩ := hcase.resolve_right fun hn => hn.1 hf
  obtain ⟨hi, hiw⟩ := List.getElem?_eq_some_iff.1 hw
  obtain ⟨A, B, ek, hA, hB, hfit⟩ := nfit_found hs hr e hi hlo hhi
  have hwok : It.ok (k, w) := by rw [← hiw]; exact H.p1.itOk _ (List.getElem_mem hi)
  have hval : val k kvs = some w := by rw [ek]; exact look_at hA hB
  have hins : ins k v kvs = A ++ (k, v) :: B := by rw [ek]; exact ins_at hA hB
  have him : i < (its.map It.c).length := by rw [List.length_map]; exact hi
  have hic : (its.map It.c)[i] = It.c (k, w) := by rw [List.getElem_map, hiw]
  refine nc_s (fa_s (ld1S H si rfl (ixV H.p1 i rfl him fun b hrd => fa_s ?_)))
  rw [hic] at hrd
  have hrd2 := hrd.sub 1 4 (by simp [It.c, hwok.1])
  have hw4 : ((It.c (k, w)).drop 1).take 4 = w := by simp [It.c, ← hwok.1]
  rw [hw4] at hrd2
  refine ldnR hrd2 hwok.1.symm (staS H.p2 hwok.1 rfl hwok.2 fun h H => ?_)
  have hv4 : ((It.c (k, v)).drop 1).take 4 = v := by simp [It.c, ← hv.1]
  refine nc_s (fa_s (ld1S H.p1 si rfl (fa_s (ldnS H.p3 v (by rw [hv5]; omega) hv4 ?_))))
  obtain ⟨b, c, tl, rfl, hvk, H⟩ := H.p2.vecW him
  refine ixs_s (by omega) (by rw [List.length_map]; omega) (fa_s ?_)
  rw [Int.toNat_natCast, Nat.zero_add]
  have hvc : (Value.agg v.toArray).cells.toList = v := by simp [Value.cells]
  refine stV (n := 4) (v := .agg v.toArray) (i := i) (j := 1) hvk H him (by simp [Value.cells, hv.1]) (by omega) (by rw [hvc]; exact hv.2) fun h H => ?_
  have hset : (its.map It.c).set i (splice (its.map It.c)[i] 1 (Value.agg v.toArray).cells.toList) = (its.take i ++ (k, v) :: its.drop (i + 1)).map It.c := by
    rw [hvc, hic]
    have : splice (It.c (k, w)) 1 v = It.c (k, v) := by have h4 : w.length = 4 := hwok.1; simp [splice, It.c, hv.1]; omega
    rw [this]
    rw [List.set_eq_take_append_cons_drop, if_pos him, List.map_append, List.map_cons, List.map_take, List.map_drop]
  rw [hset] at H
  refine ldaS H.p1 hwok.1 (staS H.p1 hwok.1 hwok.1 hwok.2 fun h H => ldaS H hwok.1 ⟨by rw [hval]; exact hwok, .inl ⟨?_, ?_⟩⟩)
  · rw [hval]; rfl
  · rw [hins]
    refine Hs.nd.2 ⟨sl b 0 (its.map It.c).length c, sk, its.take i ++ (k, v) :: its.drop (i + 1), qs, ?_, ?_, hfit (k, v), ?_⟩
    · simp; omega
    · simp; omega
    · exact H.drop.perm (rs' := bk p [sl b 0 (its.map It.c).length c, sk] :: vec 5 (sl b 0 (its.map It.c).length c) ((its.take i ++ (k, v) :: its.drop (i + 1)).map It.c) :: vec 1 sk (qs.map kpt) :: kids d qs :: bk x (It.c (k, v)) :: rs) (by repeat (first | with_reducible exact List.Perm.refl _ | with_reducible refine pm0 ?_ | with_reducible refine pm1 ?_ | with_reducible refine pm2 ?_ | with_reducible refine pm3 ?_ | with_reducible refine pm4 ?_ | with_reducible refine pm5 ?_ | with_reducible refine pm6 ?_ | with_reducible refine pm7 ?_ | with_reducible refine pm8 ?_ | with_reducible refine pm9 ?_ | with_reducible refine pm10 ?_ | with_reducible refine pm11 ?_ | with_reducible refine pm12 ?_ | with_reducible refine pm13 ?_)) |>.p4.drop
theorem l386 {h : Hp} {rs : List SL} {mn p i x old : Nat} {kvs its : List It} {qs : List (Nat × List It)} {si sk : Value} {k : ByteArray} {v : List Value} {k8 : Cur 1} (hv : It.ok (k, v)) (hr : RiseI kvs) (h1 : mn ≤ kvs.length) (h2 : kvs.length ≤ 5) (hp : Pos (kvs.map (·.1)) k i) (hf : (kvs.map (·.1))[i]? ≠ some k) (hq0 : qs = [])
    (H : Hs h (bk p [si, sk] :: vec 5 si (kvs.map It.c) :: bk old zero4 :: bk x (It.c (k, v)) :: vec 1 sk (qs.map kpt) :: kids 0 qs :: rs))
    (hk8 : Le 1 (allS 1 fun _ had => T386 (pt p 0) (pt old 0) (PutR 0 mn p kvs k v rs) had) k8) : L386 (pt p 0) (pt x 0) (vi i) k8 h := by
  obtain ⟨hv5, hv1⟩ := It.ok_c hv
  obtain ⟨hlo, hil, hcase⟩ := pos_split hr hp
  obtain ⟨_, hhi⟩ := hcase.resolve_left fun ⟨_, h, _⟩ => hf h
  have z4 : It.ok (k, zero4) := ⟨rfl, by simp [oneC]⟩
  have tk : (kvs.take i).length = i := by rw [List.length_take]; omega
  have hval : val k kvs = none := by
    have := look_new (k := k) hlo hhi
    rwa [List.take_append_drop] at this
  have hins : ins k v kvs = kvs.take i ++ (k, v) :: kvs.drop i := by
    have := ins_new (k := k) (v := v) hlo hhi
    rwa [List.take_append_drop] at this
  unfold L386
  refine nc_s (fa_s (ld1S H si rfl (ldaS H.p3 hv5 (bslN H (It.c (k, v)) (by simp [fill2, rep, Value.cells, hv5]) fun bx h H => ⟨ld1S H.p1 si rfl rfl, ?_⟩))))
  refine cl_s b424 (s424 (rs := bk p [si, sk] :: bk old zero4 :: bk x (It.c (k, v)) :: vec 1 sk (qs.map kpt) :: kids 0 qs :: rs) (H.perm (by repeat (first | with_reducible exact List.Perm.refl _ | with_reducible refine pm0 ?_ | with_reducible refine pm1 ?_ | with_reducible refine pm2 ?_ | with_reducible refine pm3 ?_ | with_reducible refine pm4 ?_ | with_reducible refine pm5 ?_ | with_reducible refine pm6 ?_ | with_reducible refine pm7 ?_ | with_reducible refine pm8 ?_ | with_reducible refine pm9 ?_ | with_reducible refine pm10 ?_ | with_reducible refine pm11 ?_ | with_reducible refine pm12 ?_ | with_reducible refine pm13 ?_))) hv5 hv1 (by simpa using hil) (by simp; omega)) fun s' h H => ?_
  refine nc_s (fa_s (st1S H.p1 H.vecC (by simp) fun h H => hk8 _ _ fun _ => ?_))
  rw [← List.map_take, ← List.map_drop, ← List.map_cons, ← List.map_append] at H
  show T386 (pt p 0) (pt old 0) (PutR 0 mn p kvs k v rs) (.bool false) h
  refine u386 (oc := zero4) (had := false) (mn := mn) (kvs := kvs.take i ++ (k, v) :: kvs.drop i) (qs := qs) (its := kvs.take i ++ (k, v) :: kvs.drop i) (sk := sk) (si := s') (d := 0) ?_ rfl (by simp [oneC]) ⟨hq0, rfl⟩ (by simp; omega) (by simp; omega) fun r h' hr => by unfold PutR; rw [hval, hins]; exact ⟨z4, hr⟩
  have H : Hs h (bk p [s', sk] :: vec 5 s' ((kvs.take i ++ (k, v) :: kvs.drop i).map It.c) :: bk old zero4 :: bk x (It.c (k, v)) :: vec 1 sk (qs.map kpt) :: kids 0 qs :: rs) := H
  exact (H.perm (rs' := bk x (It.c (k, v)) :: bk p [s', sk] :: vec 5 s' ((kvs.take i ++ (k, v) :: kvs.drop i).map It.c) :: vec 1 sk (qs.map kpt) :: kids 0 qs :: bk old zero4 :: rs) (by repeat (first | with_reducible exact List.Perm.refl _ | with_reducible refine pm0 ?_ | with_reducible refine pm1 ?_ | with_reducible refine pm2 ?_ | with_reducible refine pm3 ?_ | with_reducible refine pm4 ?_ | with_reducible refine pm5 ?_ | with_reducible refine pm6 ?_ | with_reducible refine pm7 ?_ | with_reducible refine pm8 ?_ | with_reducible refine pm9 ?_ | with_reducible refine pm10 ?_ | with_reducible refine pm11 ?_ | with_reducible refine pm12 ?_ | with_reducible refine pm13 ?_))).drop
theorem g386 {d : Nat} {h : Hp} {rs : List SL} {mn p i old : Nat} {its : List It} {qs : List (Nat × List It)} {si sk : Value} {k8 : Cur 1} {q : Nat × List It} {y : It} {a b' : List It} {m r : Nat} {oc : List Value} {had : Bool} {R : Value → A} {kvs' : List It}
    (ho : oc.length = 4) (ho1 : ∀ u ∈ oc, oneC u = true) (h1 : mn ≤ its.length) (h2 : its.length ≤ 5) (hl : qs.length = its.length + 1) (hil : i ≤ its.length) (eq : qs = qs.take i ++ q :: qs.drop (i + 1))
    (hins : kvs' = preI ((qs.take i).map (·.2)) (its.take i) ++ (a ++ y :: b') ++ postI (its.drop i) ((qs.drop (i + 1)).map (·.2))) (hym : y.ok)
    (H : Hs h (bk p [si, sk] :: vec 5 si (its.map It.c) :: vec 1 sk (qs.map kpt) :: bk m y.c :: bk old oc :: ndR d 2 q.1 a :: ndR d 2 r b' :: sep ((qs.take i).map (kf d)) :: sep ((qs.drop (i + 1)).map (kf d)) :: rs))
    (hk : ∀ r h', PutPost (d + 1) mn p kvs' oc had rs r h' → R r h')
    (hk8 : Le 1 (allS 1 fun _ had => T386 (pt p 0) (pt old 0) R had) k8) : S386 (pt p 0) (vi i) (.bool had) (pt m 0) (pt r 0) k8 h := by
  have tq : (qs.take i).length = i := by rw [List.length_take]; omega
  unfold S386
  obtain ⟨hy5, hy1⟩ := It.ok_c hym
  refine nc_s (fa_s (ld1S H si rfl (nc_s (ldaS H.p3 hy5 (bslN H y.c (by simp [fill2, rep, Value.cells, hy5]) fun bx h H => ⟨ld1S H.p1 si rfl rfl, ?_⟩)))))
  refine cl_s b424 (s424 (rs := bk p [si, sk] :: vec 1 sk (qs.map kpt) :: bk old oc :: ndR d 2 q.1 a :: ndR d 2 r b' :: sep ((qs.take i).map (kf d)) :: sep ((qs.drop (i + 1)).map (kf d)) :: rs)
    ((H.perm (rs' := bk m y.c :: vec 5 si (its.map It.c) :: bkn bx y.c :: bk p [si, sk] :: vec 1 sk (qs.map kpt) :: bk old oc :: ndR d 2 q.1 a :: ndR d 2 r b' :: sep ((qs.take i).map (kf d)) :: sep ((qs.drop (i + 1)).map (kf d)) :: rs) (by repeat (first | with_reducible exact List.Perm.refl _ | with_reducible refine pm0 ?_ | with_reducible refine pm1 ?_ | with_reducible refine pm2 ?_ | with_reducible refine pm3 ?_ | with_reducible refine pm4 ?_ | with_reducible refine pm5 ?_ | with_reducible refine pm6 ?_ | with_reducible refine pm7 ?_ | with_reducible refine pm8 ?_ | with_reducible refine pm9 ?_ | with_reducible refine pm10 ?_ | with_reducible refine pm11 ?_ | with_reducible refine pm12 ?_ | with_reducible refine pm13 ?_))).drop)
    hy5 hy1 (by simpa using hil) (by simp; omega)) fun s' h H => ?_
  refine nc_s (fa_s (st1S H.p1 H.vecC (by simp) fun h H => nc_s (fa_s (ld1S H sk rfl (bn_add (by omega) (by omega) ?_)))))
  have H : Hs h (bk p [s', sk] :: vec 5 s' ((its.map It.c).take i ++ y.c :: (its.map It.c).drop i) :: vec 1 sk (qs.map kpt) :: bk old oc :: ndR d 2 q.1 a :: ndR d 2 r b' :: sep ((qs.take i).map (kf d)) :: sep ((qs.drop (i + 1)).map (kf d)) :: rs) := H
  rw [← List.map_take, ← List.map_drop, ← List.map_cons, ← List.map_append] at H
  refine bslN H [pt r 0] (by simp [fill2, rep, Value.cells]) fun by' h H => ?_
  have e1 : (i : Int) + 1 = ((i + 1 : Nat) : Int) := by omega
  rw [e1]
  refine cl_s b425 (s425 (rs := bk p [s', sk] :: vec 5 s' ((its.take i ++ y :: its.drop i).map It.c) :: bk old oc :: ndR d 2 q.1 a :: ndR d 2 r b' :: sep ((qs.take i).map (kf d)) :: sep ((qs.drop (i + 1)).map (kf d)) :: rs)
    (H.perm (by repeat (first | with_reducible exact List.Perm.refl _ | with_reducible refine pm0 ?_ | with_reducible refine pm1 ?_ | with_reducible refine pm2 ?_ | with_reducible refine pm3 ?_ | with_reducible refine pm4 ?_ | with_reducible refine pm5 ?_ | with_reducible refine pm6 ?_ | with_reducible refine pm7 ?_ | with_reducible refine pm8 ?_ | with_reducible refine pm9 ?_ | with_reducible refine pm10 ?_ | with_reducible refine pm11 ?_ | with_reducible refine pm12 ?_ | with_reducible refine pm13 ?_))) rfl (by simp [oneC]) (by simp; omega) (by simp; omega)) fun s2 h H => ?_
  refine nc_s (fa_s (st1S H.p1 H.vecC (by simp) fun h H => hk8 _ _ fun _ => ?_))
  show T386 (pt p 0) (pt old 0) R (.bool had) h
  have eks : (qs.map kpt).take (i + 1) ++ [pt r 0] :: (qs.map kpt).drop (i + 1) = (qs.take i ++ (q.1, a) :: (r, b') :: qs.drop (i + 1)).map kpt := by
    have : qs.take (i + 1) = qs.take i ++ [q] := by
      conv => lhs; rw [eq]
      rw [List.take_append, tq, List.take_of_length_le (by omega)]
      simp
    rw [← List.map_take, ← List.map_drop, this]
    simp
  have H : Hs h (bk p [s', s2] :: vec 1 s2 ((qs.map kpt).take (i + 1) ++ [pt r 0] :: (qs.map kpt).drop (i + 1)) :: vec 5 s' ((its.take i ++ y :: its.drop i).map It.c) :: bk old oc :: ndR d 2 q.1 a :: ndR d 2 r b' :: sep ((qs.take i).map (kf d)) :: sep ((qs.drop (i + 1)).map (kf d)) :: rs) := H
  rw [eks] at H
  refine u386 (oc := oc) (mn := mn) (kvs := kvs') (qs := qs.take i ++ (q.1, a) :: (r, b') :: qs.drop (i + 1)) (its := its.take i ++ y :: its.drop i) (sk := s2) (si := s') (d := d + 1) ?_ ho ho1 ?_ (by simp; omega) (by simp; omega) hk
  · refine Hs.perm (rs := kids (d + 1) (qs.take i ++ (q.1, a) :: (r, b') :: qs.drop (i + 1)) :: bk p [s', s2] :: vec 5 s' ((its.take i ++ y :: its.drop i).map It.c) :: vec 1 s2 ((qs.take i ++ (q.1, a) :: (r, b') :: qs.drop (i + 1)).map kpt) :: bk old oc :: rs) ?_ (by repeat (first | with_reducible exact List.Perm.refl _ | with_reducible refine pm0 ?_ | with_reducible refine pm1 ?_ | with_reducible refine pm2 ?_ | with_reducible refine pm3 ?_ | with_reducible refine pm4 ?_ | with_reducible refine pm5 ?_ | with_reducible refine pm6 ?_ | with_reducible refine pm7 ?_ | with_reducible refine pm8 ?_ | with_reducible refine pm9 ?_ | with_reducible refine pm10 ?_ | with_reducible refine pm11 ?_ | with_reducible refine pm12 ?_ | with_reducible refine pm13 ?_))
    simp only [kids]
    rw [sep_mid, List.map_cons]
    refine Hs.perm (rs := stS (ndR d 2 r b') (sep ((qs.drop (i + 1)).map (kf d))) :: ndR d 2 q.1 a :: sep ((qs.take i).map (kf d)) :: bk p [s', s2] :: vec 5 s' ((its.take i ++ y :: its.drop i).map It.c) :: vec 1 s2 ((qs.take i ++ (q.1, a) :: (r, b') :: qs.drop (i + 1)).map kpt) :: bk old oc :: rs) ?_ (by
      show List.Perm (stS (ndR d 2 r b') (sep ((qs.drop (i + 1)).map (kf d))) :: ndR d 2 q.1 a :: _) (ndR d 2 q.1 a :: sep ((qs.take i).map (kf d)) :: stS (ndR d 2 r b') (sep ((qs.drop (i + 1)).map (kf d))) :: _)
      repeat (first | with_reducible exact List.Perm.refl _ | with_reducible refine pm0 ?_ | with_reducible refine pm1 ?_ | with_reducible refine pm2 ?_ | with_reducible refine pm3 ?_ | with_reducible refine pm4 ?_ | with_reducible refine pm5 ?_ | with_reducible refine pm6 ?_ | with_reducible refine pm7 ?_ | with_reducible refine pm8 ?_ | with_reducible refine pm9 ?_ | with_reducible refine pm10 ?_ | with_reducible refine pm11 ?_ | with_reducible refine pm12 ?_ | with_reducible refine pm13 ?_))
    exact Hs.st.2 (H.perm (by repeat (first | with_reducible exact List.Perm.refl _ | with_reducible refine pm0 ?_ | with_reducible refine pm1 ?_ | with_reducible refine pm2 ?_ | with_reducible refine pm3 ?_ | with_reducible refine pm4 ?_ | with_reducible refine pm5 ?_ | with_reducible refine pm6 ?_ | with_reducible refine pm7 ?_ | with_reducible refine pm8 ?_ | with_reducible refine pm9 ?_ | with_reducible refine pm10 ?_ | with_reducible refine pm11 ?_ | with_reducible refine pm12 ?_ | with_reducible refine pm13 ?_)))
  · rw [hins]
    refine ⟨by simp; omega, ?_⟩
    rw [List.map_append, List.map_cons, List.map_cons]
    rw [inter_split (K1 := (qs.take i).map (·.2)) (I1 := its.take i) (q := a) (K2 := b' :: (qs.drop (i + 1)).map (·.2)) (I2 := y :: its.drop i) (by simp; omega) (by simp; omega)]
    simp [postI]
theorem k386 {d : Nat} {h : Hp} {rs : List SL} {mn p i x old : Nat} {kvs its : List It} {qs : List (Nat × List It)} {si sk : Value} {k : ByteArray} {v : List Value} {k8 : Cur 1} (hv : It.ok (k, v)) (hr : RiseI kvs) (h1 : mn ≤ its.length) (h2 : its.length ≤ 5) (hs : nfit (d + 1) kvs its qs) (hri : RiseI its) (hp : Pos (its.map (·.1)) k i) (hf : (its.map (·.1))[i]? ≠ some k)
    (rec : ∀ (q : Nat × List It) (h : Hp) (rs : List SL), Hs h (ndR d 2 q.1 q.2 :: rs) → RiseI q.2 → FnW Tryz.prog 386 #[pt q.1 0, .agg (It.c (k, v)).toArray] (PutR d 2 q.1 q.2 k v rs) h)
    (H : Hs h (bk p [si, sk] :: vec 5 si (its.map It.c) :: bk old zero4 :: bk x (It.c (k, v)) :: vec 1 sk (qs.map kpt) :: kids (d + 1) qs :: rs))
    (hk8 : Le 1 (allS 1 fun _ had => T386 (pt p 0) (pt old 0) (PutR (d + 1) mn p kvs k v rs) had) k8) : K386 (pt p 0) (pt x 0) (pt old 0) (vi i) k8 h := by
  obtain ⟨hv5, hv1⟩ := It.ok_c hv
  obtain ⟨hlo, hil, hcase⟩ := pos_split hri hp
  obtain ⟨_, hhi⟩ := hcase.resolve_left fun ⟨_, h, _⟩ => hf h
  unfold K386
  have hl := hs.1
  obtain ⟨q, eq, hqi, ek⟩ := nfit_cut hs hil
  obtain ⟨hb1, hb2⟩ := nfit_bounds (k := k) hs hr hil
  have hb1 := hb1 hlo
  have hb2 := hb2 hhi
  have hrq : RiseI q.2 := by rw [ek] at hr; exact (RiseI_app.1 (RiseI_app.1 hr).1).2.1
  have hval : val k kvs = val k q.2 := by rw [ek]; exact look_mid hb1 hb2
  have hins : ins k v kvs = preI ((qs.take i).map (·.2)) (its.take i) ++ ins k v q.2 ++ postI (its.drop i) ((qs.drop (i + 1)).map (·.2)) := by rw [ek]; exact ins_mid hb1 hb2
  have hqm : i < (qs.map kpt).length := by rw [List.length_map]; omega
  have hqe : (qs.map kpt)[i] = [pt q.1 0] := by
    rw [List.getElem_map]
    obtain ⟨h1, h2⟩ := List.getElem?_eq_some_iff.1 hqi
    rw [h2]
  have tq : (qs.take i).length = i := by rw [List.length_take]; omega
  have sq : ∀ a : Nat × List It, a.1 = q.1 → (qs.take i ++ a :: qs.drop (i + 1)).map kpt = qs.map kpt := by
    intro a ha
    conv => rhs; rw [eq]
    simp [ha]
  refine nc_s (fa_s (ld1S H sk rfl (ixV H.p4 i rfl hqm fun b hrd => ?_)))
  rw [hqe] at hrd
  refine ld1R hrd (ldaS H.p3 hv5 ?_)
  have H := H.perm (rs' := kids (d + 1) qs :: bk p [si, sk] :: vec 5 si (its.map It.c) :: bk old zero4 :: bk x (It.c (k, v)) :: vec 1 sk (qs.map kpt) :: rs) (by repeat (first | with_reducible exact List.Perm.refl _ | with_reducible refine pm0 ?_ | with_reducible refine pm1 ?_ | with_reducible refine pm2 ?_ | with_reducible refine pm3 ?_ | with_reducible refine pm4 ?_ | with_reducible refine pm5 ?_ | with_reducible refine pm6 ?_ | with_reducible refine pm7 ?_ | with_reducible refine pm8 ?_ | with_reducible refine pm9 ?_ | with_reducible refine pm10 ?_ | with_reducible refine pm11 ?_ | with_reducible refine pm12 ?_ | with_reducible refine pm13 ?_))
  rw [eq] at H
  simp only [kids] at H
  rw [sep_mid] at H
  rw [← eq] at H
  have H : Hs h (ndR d 2 q.1 q.2 :: _) := H
  refine cl_s b386 (rec q h _ H hrq) ?_
  rintro _ h ⟨hok, ⟨rfl, H⟩ | ⟨m, r, y, a, b', rfl, eab, hym, H⟩⟩
  · refine ex_s _ rfl (ex_s _ rfl (ex_s _ rfl (ex_s _ rfl (staS H.p5 hok.1 rfl hok.2 fun h H => ?_))))
    refine beP und556 (cn_f (hk8 _ _ fun _ => ?_))
    show T386 (pt p 0) (pt old 0) (PutR (d + 1) mn p kvs k v rs) _ h
    refine u386 (qs := qs.take i ++ (q.1, ins k v q.2) :: qs.drop (i + 1)) (its := its) (sk := sk) (si := si) (d := d + 1) ?_ hok.1 hok.2 (nfit_set hl hil (q.1, ins k v q.2)) h1 (by omega) fun r h' hr => by unfold PutR; rw [hval, hins]; exact ⟨hok, hr⟩
    rw [sq (q.1, ins k v q.2) rfl]
    refine Hs.perm (rs := kids (d + 1) (qs.take i ++ (q.1, ins k v q.2) :: qs.drop (i + 1)) :: bk p [si, sk] :: vec 5 si (its.map It.c) :: vec 1 sk (qs.map kpt) :: bk old ((val k q.2).getD zero4) :: rs) ?_ (by repeat (first | with_reducible exact List.Perm.refl _ | with_reducible refine pm0 ?_ | with_reducible refine pm1 ?_ | with_reducible refine pm2 ?_ | with_reducible refine pm3 ?_ | with_reducible refine pm4 ?_ | with_reducible refine pm5 ?_ | with_reducible refine pm6 ?_ | with_reducible refine pm7 ?_ | with_reducible refine pm8 ?_ | with_reducible refine pm9 ?_ | with_reducible refine pm10 ?_ | with_reducible refine pm11 ?_ | with_reducible refine pm12 ?_ | with_reducible refine pm13 ?_))
    simp only [kids]
    rw [sep_mid]
    exact (H.perm (rs' := bk x (It.c (k, v)) :: ndR d 2 q.1 (ins k v q.2) :: sep ((qs.take i).map (kf d)) :: sep ((qs.drop (i + 1)).map (kf d)) :: bk p [si, sk] :: vec 5 si (its.map It.c) :: vec 1 sk (qs.map kpt) :: bk old ((val k q.2).getD zero4) :: rs) (by repeat (first | with_reducible exact List.Perm.refl _ | with_reducible refine pm0 ?_ | with_reducible refine pm1 ?_ | with_reducible refine pm2 ?_ | with_reducible refine pm3 ?_ | with_reducible refine pm4 ?_ | with_reducible refine pm5 ?_ | with_reducible refine pm6 ?_ | with_reducible refine pm7 ?_ | with_reducible refine pm8 ?_ | with_reducible refine pm9 ?_ | with_reducible refine pm10 ?_ | with_reducible refine pm11 ?_ | with_reducible refine pm12 ?_ | with_reducible refine pm13 ?_))).drop
  · refine ex_s _ rfl (ex_s _ rfl (ex_s _ rfl (ex_s _ rfl (staS H.p7 hok.1 rfl hok.2 fun h H => ?_))))
    refine beP und556 (cn_t ?_)
    refine g386 (d := d) (q := q) (si := si) (sk := sk) (rs := rs) (kvs' := ins k v kvs) (oc := (val k q.2).getD zero4) (mn := mn) hok.1 hok.2 h1 h2 hl hil eq (by rw [hins, eab]) hym ?_ ?_ hk8
    · exact (H.perm (rs' := bk x (It.c (k, v)) :: bk p [si, sk] :: vec 5 si (its.map It.c) :: vec 1 sk (qs.map kpt) :: bk m y.c :: bk old ((val k q.2).getD zero4) :: ndR d 2 q.1 a :: ndR d 2 r b' :: sep ((qs.take i).map (kf d)) :: sep ((qs.drop (i + 1)).map (kf d)) :: rs) (by repeat (first | with_reducible exact List.Perm.refl _ | with_reducible refine pm0 ?_ | with_reducible refine pm1 ?_ | with_reducible refine pm2 ?_ | with_reducible refine pm3 ?_ | with_reducible refine pm4 ?_ | with_reducible refine pm5 ?_ | with_reducible refine pm6 ?_ | with_reducible refine pm7 ?_ | with_reducible refine pm8 ?_ | with_reducible refine pm9 ?_ | with_reducible refine pm10 ?_ | with_reducible refine pm11 ?_ | with_reducible refine pm12 ?_ | with_reducible refine pm13 ?_))).drop
    · intro r h' hr
      unfold PutR
      rw [hval]; exact ⟨hok, hr⟩
theorem s386' (d : Nat) (rec : ∀ d', d = d' + 1 → ∀ (mn p : Nat) (kvs : List It) (k : ByteArray) (v : List Value) (h : Hp) (rs : List SL), mn ≤ 2 → Hs h (ndR d' mn p kvs :: rs) → RiseI kvs → It.ok (k, v) →
    FnW Tryz.prog 386 #[pt p 0, .agg (It.c (k, v)).toArray] (PutR d' mn p kvs k v rs) h) (mn p : Nat) (kvs : List It) (k : ByteArray) (v : List Value) (h : Hp) (rs : List SL) (hmn : mn ≤ 2) (H : Hs h (ndR d mn p kvs :: rs)) (hr : RiseI kvs) (hv : It.ok (k, v)) :
    FnW Tryz.prog 386 #[pt p 0, .agg (It.c (k, v)).toArray] (PutR d mn p kvs k v rs) h := by
  obtain ⟨hv5, hv1⟩ := It.ok_c hv
  obtain ⟨si, sk, its, qs, h1, h2, hs, H⟩ := Hs.nd.1 H
  have hri := nfit_rise hs hr
  refine c386 ?_
  unfold C386
  refine bxS H fun x h H => alS H fun old h H => fa_s (ld1S H.p1 (.string k) rfl ?_)
  have H : Hs h (bk old zero4 :: bk x (It.c (k, v)) :: bk p [si, sk] :: vec 5 si (its.map It.c) :: vec 1 sk (qs.map kpt) :: kids d qs :: rs) := H
  refine cl_s b326 (s326 (rs := bk old zero4 :: bk x (It.c (k, v)) :: vec 1 sk (qs.map kpt) :: kids d qs :: rs) (H.perm (by repeat (first | with_reducible exact List.Perm.refl _ | with_reducible refine pm0 ?_ | with_reducible refine pm1 ?_ | with_reducible refine pm2 ?_ | with_reducible refine pm3 ?_ | with_reducible refine pm4 ?_ | with_reducible refine pm5 ?_ | with_reducible refine pm6 ?_ | with_reducible refine pm7 ?_ | with_reducible refine pm8 ?_ | with_reducible refine pm9 ?_ | with_reducible refine pm10 ?_ | with_reducible refine pm11 ?_ | with_reducible refine pm12 ?_ | with_reducible refine pm13 ?_))) hri (by omega)) ?_
  rintro _ h ⟨i, hp, rfl, H⟩
  refine ex_s _ rfl (ex_s _ rfl ?_)
  intro k8 hk8
  refine cn_s (fun hf => ?_) fun hf => ?_
  · exact f386 hv hr h1 h2 hs hri hp (of_decide_eq_true hf) H
  · have hf := of_decide_eq_false hf
    refine nc_s (fa_s (ld1S H sk rfl (lnV H.p4 ?_)))
    rw [List.length_map]
    refine cn_eql (fun hq => ?_) fun hq => ?_
    · have hq0 : qs = [] := List.eq_nil_of_length_eq_zero (by omega)
      obtain ⟨rfl, rfl⟩ : d = 0 ∧ kvs = its := by
        cases d with
        | zero => exact ⟨rfl, hs.2⟩
        | succ d => have := hs.1; rw [hq0] at this; simp at this
      exact l386 (its := []) hv hr h1 h2 hp hf hq0 H hk8
    · cases d with
      | zero => exact absurd (by rw [hs.1]; rfl) hq
      | succ d => exact k386 hv hr h1 h2 hs hri hp hf (fun q h rs H hrq => rec d rfl 2 q.1 q.2 k v h rs (Nat.le_refl _) H hrq hv) H hk8
theorem s386 : ∀ (d mn p : Nat) (kvs : List It) (k : ByteArray) (v : List Value) (h : Hp) (rs : List SL), mn ≤ 2 → Hs h (ndR d mn p kvs :: rs) → RiseI kvs → It.ok (k, v) →
    FnW Tryz.prog 386 #[pt p 0, .agg (It.c (k, v)).toArray] (PutR d mn p kvs k v rs) h := by
  intro d
  induction d with
  | zero => exact s386' 0 fun d' h => by simp at h
  | succ d ih => exact s386' (d + 1) fun d' h => by cases h; exact ih
end Go.Proofs.YtalknmdbamlabaaGreat.Q
