/- Printed by my own program gen.py: what my walk layer comes to at functions of the program. Conditions: none. -/
import Derived.Test.YtalknmdbamlabaaGreatMix
namespace Go.Proofs.YtalknmdbamlabaaGreat.Q
open Go

/- argosy/argosylaw16.LocksLeave -/
def an3 : Ann := { loops := [(10, [40], [(11, 11), (40, 50)]), (16, [55], [(14, 14), (55, 64)]), (24, [], [(4, 4), (15, 17), (19, 19), (86, 118)]), (28, [17, 94], [(17, 17), (19, 19), (94, 105)])], seqs := [], blks := [(7, [17], [(17, 17), (19, 19), (96, 104)])], plans := [(33, (.fl 0 (.fl 1 (.fl 3 (.mu 2 [] (.mu 4 [] (.fl 5 (.fl 6 (.fl 7 (.fl 8 (.fl 10 (.mu 9 [10] (.mu 11 [] (.fl 12 (.nil))))))))))))), [[], [], [0, 1], [], [0, 1, 2, 3], [0, 1, 2, 3, 4], [0, 1, 2, 3, 4, 5], [0, 1, 2, 3, 4, 5, 6], [0, 1, 2, 3, 4, 5, 6], [0, 1, 2, 3, 4, 5, 6, 7, 8], [0, 1, 2, 3, 4, 5, 6], [0, 1, 2, 3, 4, 5, 6, 7, 8, 9, 10], [0, 1, 2, 3, 4, 5, 6, 7, 8, 9, 10, 11]]))] }
def C3 (script_a0 gone_a1 : Value) (R : Value → A) : A :=
 bx 27 gone_a1 fun gone_1 =>
 cl Tryz.prog 17 [] fun v2 =>
 un .not v2 fun v3 =>
 cn v3
 (R (Value.bool false))
 (cl Tryz.prog 18 [script_a0] fun v4 =>
 cn v4
 (R (Value.bool true))
 (cl Tryz.prog 19 [Value.int IntKind.i64 3] fun v5 =>
 ex 0 v5 fun v6 =>
 ex 1 v5 fun v7 =>
 cl Tryz.prog 20 [] fun v8 =>
 cl Tryz.prog 21 [Value.int IntKind.i64 3] fun v9 =>
 bd [Value.slice none 0 0, Value.slice none 0 0, Value.slice none 0 0] [] fun v10 =>
 bx 42 v10 fun v11 =>
 be Tryz.prog 30 false v6 (Value.pointer none) fun v12 =>
 gd v12 false (fun k => k v8) fun v13 =>
 gd v12 false (be Tryz.prog 34 false v13 (Value.pointer none)) fun v14 =>
 pk v12 (Value.bool true) v14 fun v15 =>
 cn v15
 (R (Value.bool false))
 (lnS script_a0 fun v16 =>
 lp 1 (fun _ nx17 v18 =>
 bn .lss v18 v16 fun v19 =>
  cn v19
  (ixs 8 script_a0 v18 fun v20 =>
  ldn 8 v20 fun v21 =>
  al [Value.int IntKind.i64 0, Value.int IntKind.i64 0, Value.int IntKind.i64 0, Value.int IntKind.u64 0, Value.int IntKind.u64 0, Value.int IntKind.i64 0, Value.string { data := #[] }, Value.slice none 0 0] 45 fun o_22 =>
  st 8 o_22 v21 <|
  ldn 8 o_22 fun v23 =>
  cl Tryz.prog 22 [v6, v8, v9, v11, v23] fun v24 =>
  bn .add v18 (Value.int IntKind.i64 1) fun v25 =>
  nx17 v25)
  (ru Tryz.prog (Instr.makeMap 47 none) fun v26 =>
 cl Tryz.prog 23 [v8] fun v27 =>
 lnS v27 fun v28 =>
 lp 1 (fun _ nx29 v30 =>
 bn .lss v30 v28 fun v31 =>
  cn v31
  (ixs 1 v27 v30 fun v32 =>
  ld1 v32 fun v33 =>
  cl Tryz.prog 24 [v8, v33] fun v34 =>
  ru Tryz.prog (Instr.mapUpdate 47 v26 v33 v34) fun _ =>
  bn .add v30 (Value.int IntKind.i64 1) fun v35 =>
  nx29 v35)
  (ldn 4 gone_1 fun v36 =>
 cl Tryz.prog 25 [v8, v36] fun v37 =>
 ldn 4 gone_1 fun v38 =>
 cl Tryz.prog 26 [v8, v38] fun v39 =>
 lnS v39 fun v40 =>
 bn .neq v40 (Value.int IntKind.i64 0) fun v41 =>
 gd v41 false (fun k => k v8) fun v42 =>
 gd v41 false (ldn 4 gone_1) fun v43 =>
 gd v41 false (cl Tryz.prog 27 [v42, v43]) fun v44 =>
 pk v41 (Value.bool true) v44 fun v45 =>
 gd v45 false (fun k => k v8) fun v46 =>
 gd v45 false (ldn 4 gone_1) fun v47 =>
 gd v45 false (cl Tryz.prog 28 [v46, v47]) fun v48 =>
 gd v45 false (un .not v48) fun v49 =>
 pk v45 (Value.bool true) v49 fun v50 =>
 cn v50
 (R (Value.bool false))
 (ru Tryz.prog (Instr.range 47 v26) fun v51 =>
 lp 0 (fun _ nx52 =>
 ru Tryz.prog (Instr.next v51 false 0) fun v53 =>
  ex 0 v53 fun v54 =>
  cn v54
  (qt Tryz.prog (Instr.entry v51) fun v55 =>
  ex 0 v55 fun v56 =>
  ex 1 v55 fun v57 =>
  bsl [Value.int IntKind.i64 0, Value.int IntKind.u64 0, Value.int IntKind.u64 0, Value.int IntKind.i64 0] 27 0 [] fun v58 =>
  lnS v57 fun v59 =>
  lp 2 (fun _ nx60 want_61 v62 =>
  bn .lss v62 v59 fun v63 =>
   cn v63
   (jn 1 (fun k64 =>
   ixs 4 v57 v62 fun v65 =>
    ldn 4 v65 fun v66 =>
    al [Value.int IntKind.i64 0, Value.int IntKind.u64 0, Value.int IntKind.u64 0, Value.int IntKind.i64 0] 27 fun x_67 =>
    st 4 x_67 v66 <|
    ldn 4 x_67 fun v68 =>
    ldn 4 gone_1 fun v69 =>
    be Tryz.prog 27 true v68 v69 fun v70 =>
    cn v70
    (ldn 4 x_67 fun v71 =>
     bsl [Value.int IntKind.i64 0, Value.int IntKind.u64 0, Value.int IntKind.u64 0, Value.int IntKind.i64 0] 27 1 [(0, 4, v71)] fun v72 =>
     apd [Value.int IntKind.i64 0, Value.int IntKind.u64 0, Value.int IntKind.u64 0, Value.int IntKind.i64 0] 32 27 want_61 v72 fun v73 =>
     k64 v73)
    (k64 want_61))
   (fun _ want_74 =>
   bn .add v62 (Value.int IntKind.i64 1) fun v75 =>
   nx60 want_74 v75))
   (cl Tryz.prog 24 [v8, v56] fun v76 =>
  cl Tryz.prog 29 [v76, want_61] fun v77 =>
  un .not v77 fun v78 =>
  gd v78 false (fun k => k v8) fun v79 =>
  gd v78 false (fun k => k v56) fun v80 =>
  gd v78 false (ldn 4 gone_1) fun v81 =>
  gd v78 false (cl Tryz.prog 31 [v79, v80]) fun v82 =>
  an2 (gd v78 false (ldn 4 gone_1) (fun u _ => u = v81)) <|
  gd v78 false (cl Tryz.prog 30 [v82, v81]) fun v83 =>
  pk v78 (Value.bool true) v83 fun v84 =>
  cn v84
  (R (Value.bool false))
  (nx52))) [v58, Value.int IntKind.i64 0])
  (R (Value.bool true))) []))) [Value.int IntKind.i64 0])) [Value.int IntKind.i64 0])))
theorem e3 (script_a0 gone_a1 : Value) (R : Value → A) : C3 script_a0 gone_a1 R = W Tryz.prog an3 (bodyOf Tryz.f3) (topQ Tryz.prog Tryz.f3.results R) (ini [script_a0, gone_a1]) := by kernel_rfl
theorem c3 {script_a0 gone_a1 : Value} {R : Value → A} {h : Hp} (H : C3 script_a0 gone_a1 R h) : FnW Tryz.prog 3 #[script_a0, gone_a1] R h :=
  fn_sound mixed (an := an3) Tryz.func3 (c := bodyOf Tryz.f3) (by kernel_rfl) (by kernel_rfl) (by kernel_rfl) (by rw [← e3]; exact H)
theorem b3 : ∃ fn, Tryz.prog.funcs[3]? = some fn ∧ fn.body.isSome = true ∧ (fn.name == "runtime.NumGoroutine") = false := ⟨_, Tryz.func3, by kernel_rfl, by kernel_rfl⟩

/- argosy/argosylaw16.speaks -/
def an17 : Ann := { loops := [], seqs := [], blks := [], plans := [] }
def C17 (R : Value → A) : A :=
 cl Tryz.prog 19 [Value.int IntKind.i64 1] fun v1 =>
 ex 0 v1 fun v2 =>
 ex 1 v1 fun v3 =>
 cl Tryz.prog 20 [] fun v4 =>
 be Tryz.prog 30 false v2 (Value.pointer none) fun v5 =>
 gd v5 false (fun k => k v4) fun v6 =>
 gd v5 false (be Tryz.prog 34 false v6 (Value.pointer none)) fun v7 =>
 pk v5 (Value.bool true) v7 fun v8 =>
 cn v8
 (R (Value.bool false))
 (cl Tryz.prog 101 [Value.int IntKind.u64 1] fun v9 =>
 bd [Value.string { data := #[] }, Value.int IntKind.i64 0, Value.int IntKind.u64 0] [(0, 1, Value.string { data := #[97] })] fun v10 =>
 bsl [Value.string { data := #[] }, Value.int IntKind.i64 0, Value.int IntKind.u64 0] 164 1 [(0, 3, v10)] fun v11 =>
 cl Tryz.prog 100 [v4, v2, v9, v11] fun v12 =>
 cl Tryz.prog 101 [Value.int IntKind.u64 2] fun v13 =>
 bd [Value.string { data := #[] }, Value.int IntKind.i64 0, Value.int IntKind.u64 0] [(0, 1, Value.string { data := #[97] })] fun v14 =>
 bd [Value.string { data := #[] }, Value.int IntKind.i64 0, Value.int IntKind.u64 0] [(0, 1, Value.string { data := #[98] })] fun v15 =>
 bsl [Value.string { data := #[] }, Value.int IntKind.i64 0, Value.int IntKind.u64 0] 164 2 [(0, 3, v14), (3, 3, v15)] fun v16 =>
 cl Tryz.prog 100 [v4, v2, v13, v16] fun v17 =>
 cl Tryz.prog 101 [Value.int IntKind.u64 1] fun v18 =>
 cl Tryz.prog 28 [v4, v18] fun v19 =>
 cl Tryz.prog 101 [Value.int IntKind.u64 2] fun v20 =>
 cl Tryz.prog 28 [v4, v20] fun v21 =>
 cl Tryz.prog 101 [Value.int IntKind.u64 2] fun v22 =>
 cl Tryz.prog 26 [v4, v22] fun v23 =>
 cl Tryz.prog 101 [Value.int IntKind.u64 1] fun v24 =>
 cl Tryz.prog 25 [v4, v24] fun v25 =>
 gd v19 true (fun k => k v21) fun v26 =>
 gd v19 true (un .not v26) fun v27 =>
 pk v19 v27 (Value.bool false) fun v28 =>
 gd v28 true (fun k => k v23) fun v29 =>
 gd v28 true (cl Tryz.prog 101 [Value.int IntKind.u64 1]) fun v30 =>
 gd v28 true (bsl [Value.int IntKind.i64 0, Value.int IntKind.u64 0, Value.int IntKind.u64 0, Value.int IntKind.i64 0] 27 1 [(0, 4, v30)]) fun v31 =>
 gd v28 true (cl Tryz.prog 29 [v29, v31]) fun v32 =>
 pk v28 v32 (Value.bool false) fun v33 =>
 gd v33 true (fun k => k v4) fun v34 =>
 gd v33 true (cl Tryz.prog 101 [Value.int IntKind.u64 2]) fun v35 =>
 gd v33 true (cl Tryz.prog 28 [v34, v35]) fun v36 =>
 pk v33 v36 (Value.bool false) fun v37 =>
 R v37)
theorem e17 (R : Value → A) : C17 R = W Tryz.prog an17 (bodyOf Tryz.f17) (topQ Tryz.prog Tryz.f17.results R) (ini []) := by kernel_rfl
theorem c17 {R : Value → A} {h : Hp} (H : C17 R h) : FnW Tryz.prog 17 #[] R h :=
  fn_sound mixed (an := an17) Tryz.func17 (c := bodyOf Tryz.f17) (by kernel_rfl) (by kernel_rfl) (by kernel_rfl) (by rw [← e17]; exact H)
theorem b17 : ∃ fn, Tryz.prog.funcs[17]? = some fn ∧ fn.body.isSome = true ∧ (fn.name == "runtime.NumGoroutine") = false := ⟨_, Tryz.func17, by kernel_rfl, by kernel_rfl⟩

/- argosy/argosylaw16.great -/
def an18 : Ann := { loops := [(4, [12], [(2, 2), (4, 4), (6, 6), (12, 38)]), (9, [29], [(2, 2), (6, 6), (29, 37)])], seqs := [], blks := [], plans := [] }
def C18 (script_a0 : Value) (R : Value → A) : A :=
 lnS script_a0 fun v1 =>
 bn .gtr v1 (Value.int IntKind.i64 60) fun v2 =>
 cn v2
 (R (Value.bool true))
 (lnS script_a0 fun v3 =>
 lp 1 (fun _ nx4 v5 =>
 bn .lss v5 v3 fun v6 =>
  cn v6
  (ixs 8 script_a0 v5 fun v7 =>
  ldn 8 v7 fun v8 =>
  al [Value.int IntKind.i64 0, Value.int IntKind.i64 0, Value.int IntKind.i64 0, Value.int IntKind.u64 0, Value.int IntKind.u64 0, Value.int IntKind.i64 0, Value.string { data := #[] }, Value.slice none 0 0] 45 fun o_9 =>
  st 8 o_9 v8 <|
  fa o_9 7 fun v10 =>
  ld1 v10 fun v11 =>
  lnS v11 fun v12 =>
  bn .gtr v12 (Value.int IntKind.i64 20) fun v13 =>
  gd v13 false (fa o_9 6) fun v14 =>
  gd v13 false (ld1 v14) fun v15 =>
  gd v13 false (lnT v15) fun v16 =>
  gd v13 false (bn .gtr v16 (Value.int IntKind.i64 100)) fun v17 =>
  pk v13 (Value.bool true) v17 fun v18 =>
  cn v18
  (R (Value.bool true))
  (fa o_9 7 fun v19 =>
  ld1 v19 fun v20 =>
  lnS v20 fun v21 =>
  lp 1 (fun _ nx22 v23 =>
  bn .lss v23 v21 fun v24 =>
   cn v24
   (ixs 3 v20 v23 fun v25 =>
   ldn 3 v25 fun v26 =>
   al [Value.string { data := #[] }, Value.int IntKind.i64 0, Value.int IntKind.u64 0] 164 fun m_27 =>
   st 3 m_27 v26 <|
   fa m_27 0 fun v28 =>
   ld1 v28 fun v29 =>
   lnT v29 fun v30 =>
   bn .gtr v30 (Value.int IntKind.i64 100) fun v31 =>
   cn v31
   (R (Value.bool true))
   (bn .add v23 (Value.int IntKind.i64 1) fun v32 =>
   nx22 v32))
   (bn .add v5 (Value.int IntKind.i64 1) fun v33 =>
  nx4 v33)) [Value.int IntKind.i64 0]))
  (R (Value.bool false))) [Value.int IntKind.i64 0])
theorem e18 (script_a0 : Value) (R : Value → A) : C18 script_a0 R = W Tryz.prog an18 (bodyOf Tryz.f18) (topQ Tryz.prog Tryz.f18.results R) (ini [script_a0]) := by kernel_rfl
theorem c18 {script_a0 : Value} {R : Value → A} {h : Hp} (H : C18 script_a0 R h) : FnW Tryz.prog 18 #[script_a0] R h :=
  fn_sound mixed (an := an18) Tryz.func18 (c := bodyOf Tryz.f18) (by kernel_rfl) (by kernel_rfl) (by kernel_rfl) (by rw [← e18]; exact H)
theorem b18 : ∃ fn, Tryz.prog.funcs[18]? = some fn ∧ fn.body.isSome = true ∧ (fn.name == "runtime.NumGoroutine") = false := ⟨_, Tryz.func18, by kernel_rfl, by kernel_rfl⟩

/- argosy/store.New -/
def an19 : Ann := { loops := [], seqs := [], blks := [], plans := [] }
def C19 (regions_a0 : Value) (R : Value → A) : A :=
 bn .lss regions_a0 (Value.int IntKind.i64 1) fun v1 =>
 gd v1 false (fun k => k regions_a0) fun v2 =>
 gd v1 false (bn .gtr v2 (Value.int IntKind.i64 3)) fun v3 =>
 pk v1 (Value.bool true) v3 fun v4 =>
 cn v4
 (R (Value.tuple #[Value.pointer none, Value.int IntKind.i64 1]))
 (cl Tryz.prog 102 [] fun v5 =>
 bd [Value.int IntKind.i64 0, Value.pointer none] [(0, 1, regions_a0), (1, 1, v5)] fun v6 =>
 bx 206 v6 fun v7 =>
 R (Value.tuple #[v7, Value.int IntKind.i64 0]))
theorem e19 (regions_a0 : Value) (R : Value → A) : C19 regions_a0 R = W Tryz.prog an19 (bodyOf Tryz.f19) (topQ Tryz.prog Tryz.f19.results R) (ini [regions_a0]) := by kernel_rfl
theorem c19 {regions_a0 : Value} {R : Value → A} {h : Hp} (H : C19 regions_a0 R h) : FnW Tryz.prog 19 #[regions_a0] R h :=
  fn_sound mixed (an := an19) Tryz.func19 (c := bodyOf Tryz.f19) (by kernel_rfl) (by kernel_rfl) (by kernel_rfl) (by rw [← e19]; exact H)
theorem b19 : ∃ fn, Tryz.prog.funcs[19]? = some fn ∧ fn.body.isSome = true ∧ (fn.name == "runtime.NumGoroutine") = false := ⟨_, Tryz.func19, by kernel_rfl, by kernel_rfl⟩

/- argosy/locks.New -/
def an20 : Ann := { loops := [], seqs := [], blks := [], plans := [] }
def C20 (R : Value → A) : A :=
 ru Tryz.prog (Instr.makeMap 207 none) fun v1 =>
 ru Tryz.prog (Instr.makeMap 208 none) fun v2 =>
 bd [Value.map none, Value.map none] [(0, 1, v1), (1, 1, v2)] fun v3 =>
 bx 210 v3 fun v4 =>
 R v4
theorem e20 (R : Value → A) : C20 R = W Tryz.prog an20 (bodyOf Tryz.f20) (topQ Tryz.prog Tryz.f20.results R) (ini []) := by kernel_rfl
theorem c20 {R : Value → A} {h : Hp} (H : C20 R h) : FnW Tryz.prog 20 #[] R h :=
  fn_sound mixed (an := an20) Tryz.func20 (c := bodyOf Tryz.f20) (by kernel_rfl) (by kernel_rfl) (by kernel_rfl) (by rw [← e20]; exact H)
theorem b20 : ∃ fn, Tryz.prog.funcs[20]? = some fn ∧ fn.body.isSome = true ∧ (fn.name == "runtime.NumGoroutine") = false := ⟨_, Tryz.func20, by kernel_rfl, by kernel_rfl⟩

/- argosy/argosyref06.New -/
def an21 : Ann := { loops := [], seqs := [], blks := [], plans := [] }
def C21 (regions_a0 : Value) (R : Value → A) : A :=
 bd [Value.int IntKind.i64 0, Value.slice none 0 0] [(0, 1, regions_a0)] fun v1 =>
 bx 75 v1 fun v2 =>
 R v2
theorem e21 (regions_a0 : Value) (R : Value → A) : C21 regions_a0 R = W Tryz.prog an21 (bodyOf Tryz.f21) (topQ Tryz.prog Tryz.f21.results R) (ini [regions_a0]) := by kernel_rfl
theorem c21 {regions_a0 : Value} {R : Value → A} {h : Hp} (H : C21 regions_a0 R h) : FnW Tryz.prog 21 #[regions_a0] R h :=
  fn_sound mixed (an := an21) Tryz.func21 (c := bodyOf Tryz.f21) (by kernel_rfl) (by kernel_rfl) (by kernel_rfl) (by rw [← e21]; exact H)
theorem b21 : ∃ fn, Tryz.prog.funcs[21]? = some fn ∧ fn.body.isSome = true ∧ (fn.name == "runtime.NumGoroutine") = false := ⟨_, Tryz.func21, by kernel_rfl, by kernel_rfl⟩

/- argosy/argosylaw16.step -/
def an22 : Ann := { loops := [(6, [34], [(11, 11), (34, 41)])], seqs := [], blks := [(0, [], [(10, 11), (15, 75)])], plans := [] }
def C22 (s_a0 l_a1 t_a2 m_a3 o_a4 : Value) (R : Value → A) : A :=
 bx 45 o_a4 fun o_1 =>
 fa o_1 0 fun v2 =>
 ld1 v2 fun v3 =>
 bn .and v3 (Value.int IntKind.i64 3) fun v4 =>
 jn 0 (fun k5 =>
 bn .eql v4 (Value.int IntKind.i64 0) fun v6 =>
  cn v6
  (fa o_1 2 fun v7 =>
   ldn 4 v7 fun v8 =>
   cl Tryz.prog 25 [l_a1, v8] fun v9 =>
   fa o_1 2 fun v10 =>
   ldn 4 v10 fun v11 =>
   cl Tryz.prog 103 [m_a3, v11] fun v12 =>
   k5)
  (bn .eql v4 (Value.int IntKind.i64 1) fun v13 =>
   cn v13
   (fa o_1 6 fun v14 =>
    ld1 v14 fun v15 =>
    fa o_1 1 fun v16 =>
    ld1 v16 fun v17 =>
    cl Tryz.prog 104 [s_a0, v15, v17] fun v18 =>
    fa o_1 6 fun v19 =>
    ld1 v19 fun v20 =>
    fa o_1 1 fun v21 =>
    ld1 v21 fun v22 =>
    cl Tryz.prog 105 [t_a2, v20, v22] fun v23 =>
    fa o_1 6 fun v24 =>
    ld1 v24 fun v25 =>
    cl Tryz.prog 106 [l_a1, s_a0, v25] fun v26 =>
    fa o_1 6 fun v27 =>
    ld1 v27 fun v28 =>
    cl Tryz.prog 107 [m_a3, t_a2, v28] fun v29 =>
    k5)
   (bsl [Value.string { data := #[] }, Value.int IntKind.i64 0, Value.int IntKind.u64 0] 164 0 [] fun v30 =>
    fa o_1 7 fun v31 =>
    ld1 v31 fun v32 =>
    apd [Value.string { data := #[] }, Value.int IntKind.i64 0, Value.int IntKind.u64 0] 32 164 v30 v32 fun v33 =>
    fa o_1 2 fun v34 =>
    ldn 4 v34 fun v35 =>
    cl Tryz.prog 100 [l_a1, s_a0, v35, v33] fun v36 =>
    fa o_1 2 fun v37 =>
    ldn 4 v37 fun v38 =>
    fa o_1 7 fun v39 =>
    ld1 v39 fun v40 =>
    cl Tryz.prog 108 [m_a3, t_a2, v38, v40] fun v41 =>
    lnS v33 fun v42 =>
    lp 1 (fun _ nx43 v44 =>
    bn .lss v44 v42 fun v45 =>
     cn v45
     (bd [Value.string { data := #[] }, Value.int IntKind.i64 0, Value.int IntKind.u64 0] [] fun v46 =>
     ixs 3 v33 v44 fun v47 =>
     st 3 v47 v46 <|
     bn .add v44 (Value.int IntKind.i64 1) fun v48 =>
     nx43 v48)
     (k5)) [Value.int IntKind.i64 0])))
 (fun _ =>
 R (Value.tuple #[]))
theorem e22 (s_a0 l_a1 t_a2 m_a3 o_a4 : Value) (R : Value → A) : C22 s_a0 l_a1 t_a2 m_a3 o_a4 R = W Tryz.prog an22 (bodyOf Tryz.f22) (topQ Tryz.prog Tryz.f22.results R) (ini [s_a0, l_a1, t_a2, m_a3, o_a4]) := by kernel_rfl
theorem c22 {s_a0 l_a1 t_a2 m_a3 o_a4 : Value} {R : Value → A} {h : Hp} (H : C22 s_a0 l_a1 t_a2 m_a3 o_a4 R h) : FnW Tryz.prog 22 #[s_a0, l_a1, t_a2, m_a3, o_a4] R h :=
  fn_sound mixed (an := an22) Tryz.func22 (c := bodyOf Tryz.f22) (by kernel_rfl) (by kernel_rfl) (by kernel_rfl) (by rw [← e22]; exact H)
theorem b22 : ∃ fn, Tryz.prog.funcs[22]? = some fn ∧ fn.body.isSome = true ∧ (fn.name == "runtime.NumGoroutine") = false := ⟨_, Tryz.func22, by kernel_rfl, by kernel_rfl⟩

/- (*argosy/locks.Locks).Keys -/
def an23 : Ann := { loops := [], seqs := [], blks := [], plans := [] }
def C23 (l_a0 : Value) (R : Value → A) : A :=
 bx 34 l_a0 fun l_1 =>
 ld1 l_1 fun v2 =>
 nc v2 fun v3 =>
 fa v3 0 fun v4 =>
 ld1 v4 fun v5 =>
 cl Tryz.prog 111 [v5] fun v6 =>
 cl Tryz.prog 110 [v6] fun v7 =>
 mf (Fn.func 112) [] [l_1] fun v8 =>
 cl Tryz.prog 109 [v7, v8] fun v9 =>
 R v9
theorem e23 (l_a0 : Value) (R : Value → A) : C23 l_a0 R = W Tryz.prog an23 (bodyOf Tryz.f23) (topQ Tryz.prog Tryz.f23.results R) (ini [l_a0]) := by kernel_rfl
theorem c23 {l_a0 : Value} {R : Value → A} {h : Hp} (H : C23 l_a0 R h) : FnW Tryz.prog 23 #[l_a0] R h :=
  fn_sound mixed (an := an23) Tryz.func23 (c := bodyOf Tryz.f23) (by kernel_rfl) (by kernel_rfl) (by kernel_rfl) (by rw [← e23]; exact H)
theorem b23 : ∃ fn, Tryz.prog.funcs[23]? = some fn ∧ fn.body.isSome = true ∧ (fn.name == "runtime.NumGoroutine") = false := ⟨_, Tryz.func23, by kernel_rfl, by kernel_rfl⟩

/- (*argosy/locks.Locks).Queue -/
def an24 : Ann := { loops := [], seqs := [], blks := [], plans := [] }
def C24 (l_a0 key_a1 : Value) (R : Value → A) : A :=
 nc l_a0 fun v1 =>
 fa v1 0 fun v2 =>
 ld1 v2 fun v3 =>
 qt Tryz.prog (Instr.lookup 207 v3 key_a1 false) fun v4 =>
 be Tryz.prog 221 true v4 (Value.pointer none) fun v5 =>
 cn v5
 (nc v4 fun v6 =>
  fa v6 0 fun v7 =>
  ld1 v7 fun v8 =>
  cl Tryz.prog 113 [v8] fun v9 =>
  R v9)
 (R (Value.slice none 0 0))
theorem e24 (l_a0 key_a1 : Value) (R : Value → A) : C24 l_a0 key_a1 R = W Tryz.prog an24 (bodyOf Tryz.f24) (topQ Tryz.prog Tryz.f24.results R) (ini [l_a0, key_a1]) := by kernel_rfl
theorem c24 {l_a0 key_a1 : Value} {R : Value → A} {h : Hp} (H : C24 l_a0 key_a1 R h) : FnW Tryz.prog 24 #[l_a0, key_a1] R h :=
  fn_sound mixed (an := an24) Tryz.func24 (c := bodyOf Tryz.f24) (by kernel_rfl) (by kernel_rfl) (by kernel_rfl) (by rw [← e24]; exact H)
theorem b24 : ∃ fn, Tryz.prog.funcs[24]? = some fn ∧ fn.body.isSome = true ∧ (fn.name == "runtime.NumGoroutine") = false := ⟨_, Tryz.func24, by kernel_rfl, by kernel_rfl⟩

/- (*argosy/locks.Locks).Leave -/
def an25 : Ann := { loops := [(2, [], [(5, 5), (11, 34)])], seqs := [], blks := [], plans := [(4, (.fl 0 (.fl 1 (.fl 2 (.fl 3 (.fl 4 (.fl 5 (.mu 6 [4] (.mu 7 [] (.fl 8 (.fl 9 (.mu 10 [] (.nil))))))))))), [[], [], [1], [1, 2], [1, 2, 3], [], [5], [1, 2, 3, 4, 5, 6], [0, 1, 2, 3, 4, 5, 6, 7], [0, 1, 2, 3, 4, 5, 6, 7, 8], [0, 1, 2, 3, 4, 5, 6, 7, 8, 9]])), (5, (.fl 0 (.fl 1 (.fl 2 (.fl 3 (.fl 4 (.fl 5 (.mu 6 [4] (.mu 7 [] (.fl 8 (.fl 9 (.mu 10 [] (.nil))))))))))), [[], [], [1], [1, 2], [1, 2, 3], [], [5], [1, 2, 3, 4, 5, 6], [0, 1, 2, 3, 4, 5, 6, 7], [0, 1, 2, 3, 4, 5, 6, 7, 8], [0, 1, 2, 3, 4, 5, 6, 7, 8, 9]])), (6, (.fl 0 (.fl 1 (.fl 2 (.fl 3 (.fl 4 (.mu 5 [] (.nil)))))), [[], [0], [0, 1], [0, 1, 2], [], [0, 1, 2, 3, 4]]))] }
def C25 (l_a0 tag_a1 : Value) (R : Value → A) : A :=
 bx 27 tag_a1 fun tag_1 =>
 nc l_a0 fun v2 =>
 fa v2 0 fun v3 =>
 ld1 v3 fun v4 =>
 ru Tryz.prog (Instr.range 207 v4) fun v5 =>
 lp 0 (fun _ nx6 =>
 ru Tryz.prog (Instr.next v5 false 0) fun v7 =>
  ex 0 v7 fun v8 =>
  cn v8
  (qt Tryz.prog (Instr.entry v5) fun v9 =>
  ex 1 v9 fun v10 =>
  nc v10 fun v11 =>
  fa v11 0 fun v12 =>
  ld1 v12 fun v13 =>
  ldn 4 tag_1 fun v14 =>
  cl Tryz.prog 115 [v14] fun v15 =>
  an2 (ld1 v12 (fun u _ => u = v13)) <|
  cl Tryz.prog 114 [v13, v15] fun v16 =>
  nc v10 fun v17 =>
  fa v17 0 fun v18 =>
  st 1 v18 v16 <|
  nc v10 fun v19 =>
  fa v19 1 fun v20 =>
  ld1 v20 fun v21 =>
  ldn 4 tag_1 fun v22 =>
  cl Tryz.prog 115 [v22] fun v23 =>
  an2 (ld1 v20 (fun u _ => u = v21)) <|
  cl Tryz.prog 114 [v21, v23] fun v24 =>
  nc v10 fun v25 =>
  fa v25 1 fun v26 =>
  st 1 v26 v24 <|
  nx6)
  (nc l_a0 fun v27 =>
 fa v27 1 fun v28 =>
 ld1 v28 fun v29 =>
 ldn 4 tag_1 fun v30 =>
 ru Tryz.prog (Builtin.delete_ #[208, 27] 0 #[v29, v30]) fun v31 =>
 R (Value.tuple #[]))) []
theorem e25 (l_a0 tag_a1 : Value) (R : Value → A) : C25 l_a0 tag_a1 R = W Tryz.prog an25 (bodyOf Tryz.f25) (topQ Tryz.prog Tryz.f25.results R) (ini [l_a0, tag_a1]) := by kernel_rfl
theorem c25 {l_a0 tag_a1 : Value} {R : Value → A} {h : Hp} (H : C25 l_a0 tag_a1 R h) : FnW Tryz.prog 25 #[l_a0, tag_a1] R h :=
  fn_sound mixed (an := an25) Tryz.func25 (c := bodyOf Tryz.f25) (by kernel_rfl) (by kernel_rfl) (by kernel_rfl) (by rw [← e25]; exact H)
theorem b25 : ∃ fn, Tryz.prog.funcs[25]? = some fn ∧ fn.body.isSome = true ∧ (fn.name == "runtime.NumGoroutine") = false := ⟨_, Tryz.func25, by kernel_rfl, by kernel_rfl⟩

/- (*argosy/locks.Locks).Ahead -/
def an26 : Ann := { loops := [(2, [4, 14], [(4, 4), (6, 8), (10, 10), (14, 42)]), (7, [4, 29], [(4, 4), (10, 10), (29, 41)])], seqs := [], blks := [(3, [4], [(4, 4), (10, 10), (31, 40)])], plans := [] }
def C26 (l_a0 tag_a1 : Value) (R : Value → A) : A :=
 bx 27 tag_a1 fun tag_1 =>
 cl Tryz.prog 23 [l_a0] fun v2 =>
 lnS v2 fun v3 =>
 lp 2 (fun _ nx4 out_5 v6 =>
 bn .lss v6 v3 fun v7 =>
  cn v7
  (ixs 1 v2 v6 fun v8 =>
  ld1 v8 fun v9 =>
  cl Tryz.prog 24 [l_a0, v9] fun v10 =>
  ldn 4 tag_1 fun v11 =>
  cl Tryz.prog 116 [v10, v11] fun v12 =>
  pp Tryz.prog (Builtin.max_ #[3, 3] 3 #[v12, Value.int IntKind.i64 0]) fun v13 =>
  slc 4 none (some v13) none v10 fun v14 =>
  lnS v14 fun v15 =>
  lp 2 (fun _ nx16 out_17 v18 =>
  bn .lss v18 v15 fun v19 =>
   cn v19
   (jn 1 (fun k20 =>
   ixs 4 v14 v18 fun v21 =>
    ldn 4 v21 fun v22 =>
    al [Value.int IntKind.i64 0, Value.int IntKind.u64 0, Value.int IntKind.u64 0, Value.int IntKind.i64 0] 27 fun t_23 =>
    st 4 t_23 v22 <|
    ldn 4 t_23 fun v24 =>
    cl Tryz.prog 117 [out_17, v24] fun v25 =>
    un .not v25 fun v26 =>
    cn v26
    (ldn 4 t_23 fun v27 =>
     bsl [Value.int IntKind.i64 0, Value.int IntKind.u64 0, Value.int IntKind.u64 0, Value.int IntKind.i64 0] 27 1 [(0, 4, v27)] fun v28 =>
     apd [Value.int IntKind.i64 0, Value.int IntKind.u64 0, Value.int IntKind.u64 0, Value.int IntKind.i64 0] 32 27 out_17 v28 fun v29 =>
     k20 v29)
    (k20 out_17))
   (fun _ out_30 =>
   bn .add v18 (Value.int IntKind.i64 1) fun v31 =>
   nx16 out_30 v31))
   (bn .add v6 (Value.int IntKind.i64 1) fun v32 =>
  nx4 out_17 v32)) [out_5, Value.int IntKind.i64 0])
  (R out_5)) [Value.slice none 0 0, Value.int IntKind.i64 0]
theorem e26 (l_a0 tag_a1 : Value) (R : Value → A) : C26 l_a0 tag_a1 R = W Tryz.prog an26 (bodyOf Tryz.f26) (topQ Tryz.prog Tryz.f26.results R) (ini [l_a0, tag_a1]) := by kernel_rfl
theorem c26 {l_a0 tag_a1 : Value} {R : Value → A} {h : Hp} (H : C26 l_a0 tag_a1 R h) : FnW Tryz.prog 26 #[l_a0, tag_a1] R h :=
  fn_sound mixed (an := an26) Tryz.func26 (c := bodyOf Tryz.f26) (by kernel_rfl) (by kernel_rfl) (by kernel_rfl) (by rw [← e26]; exact H)
theorem b26 : ∃ fn, Tryz.prog.funcs[26]? = some fn ∧ fn.body.isSome = true ∧ (fn.name == "runtime.NumGoroutine") = false := ⟨_, Tryz.func26, by kernel_rfl, by kernel_rfl⟩

/- (*argosy/locks.Locks).Doomed -/
def an27 : Ann := { loops := [], seqs := [], blks := [], plans := [(1, (.fl 0 (.fl 1 (.fl 2 (.fl 3 (.fl 4 (.fl 5 (.fl 6 (.mu 7 [] (.nil)))))))), [[], [0], [0, 1], [0, 1, 2], [], [0, 1, 2, 3, 4], [0, 1, 2, 3, 4, 5], [0, 1, 2, 3, 4, 5, 6]]))] }
def C27 (l_a0 tag_a1 : Value) (R : Value → A) : A :=
 bx 27 tag_a1 fun tag_1 =>
 nc l_a0 fun v2 =>
 fa v2 1 fun v3 =>
 ld1 v3 fun v4 =>
 ldn 4 tag_1 fun v5 =>
 qt Tryz.prog (Instr.lookup 208 v4 v5 false) fun v6 =>
 bn .gtr v6 (Value.int IntKind.i64 0) fun v7 =>
 R v7
theorem e27 (l_a0 tag_a1 : Value) (R : Value → A) : C27 l_a0 tag_a1 R = W Tryz.prog an27 (bodyOf Tryz.f27) (topQ Tryz.prog Tryz.f27.results R) (ini [l_a0, tag_a1]) := by kernel_rfl
theorem c27 {l_a0 tag_a1 : Value} {R : Value → A} {h : Hp} (H : C27 l_a0 tag_a1 R h) : FnW Tryz.prog 27 #[l_a0, tag_a1] R h :=
  fn_sound mixed (an := an27) Tryz.func27 (c := bodyOf Tryz.f27) (by kernel_rfl) (by kernel_rfl) (by kernel_rfl) (by rw [← e27]; exact H)
theorem b27 : ∃ fn, Tryz.prog.funcs[27]? = some fn ∧ fn.body.isSome = true ∧ (fn.name == "runtime.NumGoroutine") = false := ⟨_, Tryz.func27, by kernel_rfl, by kernel_rfl⟩

/- (*argosy/locks.Locks).Ready -/
def an28 : Ann := { loops := [(2, [], [(4, 4), (6, 6), (12, 32)])], seqs := [], blks := [], plans := [(4, (.fl 0 (.fl 1 (.fl 2 (.fl 3 (.fl 4 (.mu 5 [3] (.mu 6 [] (.fl 7 (.fl 8 (.fl 9 (.fl 10 (.fl 11 (.fl 12 (.mu 13 [11] (.mu 14 [] (.fl 15 (.fl 16 (.nil))))))))))))))))), [[], [0], [0, 1], [0, 1, 2], [], [4], [0, 1, 2, 3, 4, 5], [0, 1, 2, 3, 4, 5, 6], [0, 1, 2, 3, 4, 5, 6, 7], [0, 1, 2, 3, 4, 5, 6, 7, 8], [0, 1, 2, 3, 4, 5, 6, 7, 8, 9], [0, 1, 2, 3, 4, 5, 6, 7, 8, 9, 10], [0, 1, 2, 3, 4, 5, 6, 7], [0, 1, 2, 3, 4, 5, 6, 7, 12], [0, 1, 2, 3, 4, 5, 6, 7, 8, 9, 10, 11, 12, 13], [0, 1, 2, 3, 4, 5, 6, 7, 8, 9, 10, 11, 12, 13, 14], [0, 1, 2, 3, 4, 5, 6, 7, 8, 9, 10, 11, 12, 13, 14, 15]]))] }
def C28 (l_a0 tag_a1 : Value) (R : Value → A) : A :=
 bx 27 tag_a1 fun tag_1 =>
 nc l_a0 fun v2 =>
 fa v2 0 fun v3 =>
 ld1 v3 fun v4 =>
 ru Tryz.prog (Instr.range 207 v4) fun v5 =>
 lp 0 (fun _ nx6 =>
 ru Tryz.prog (Instr.next v5 false 0) fun v7 =>
  ex 0 v7 fun v8 =>
  cn v8
  (qt Tryz.prog (Instr.entry v5) fun v9 =>
  ex 1 v9 fun v10 =>
  nc v10 fun v11 =>
  fa v11 1 fun v12 =>
  ld1 v12 fun v13 =>
  ldn 4 tag_1 fun v14 =>
  cl Tryz.prog 115 [v14] fun v15 =>
  an2 (ld1 v12 (fun u _ => u = v13)) <|
  cl Tryz.prog 118 [v13, v15] fun v16 =>
  gd v16 false (fun k => k v10) fun v17 =>
  gd v16 false (nc v17) fun v18 =>
  gd v16 false (fa v18 0) fun v19 =>
  gd v16 false (ld1 v19) fun v20 =>
  gd v16 false (ldn 4 tag_1) fun v21 =>
  gd v16 false (cl Tryz.prog 115 [v21]) fun v22 =>
  an2 (gd v16 false (ld1 v19) (fun u _ => u = v20)) <|
  gd v16 false (cl Tryz.prog 119 [v20, v22]) fun v23 =>
  gd v16 false (bn .gtr v23 (Value.int IntKind.i64 0)) fun v24 =>
  pk v16 (Value.bool true) v24 fun v25 =>
  cn v25
  (R (Value.bool false))
  (nx6))
  (R (Value.bool true))) []
theorem e28 (l_a0 tag_a1 : Value) (R : Value → A) : C28 l_a0 tag_a1 R = W Tryz.prog an28 (bodyOf Tryz.f28) (topQ Tryz.prog Tryz.f28.results R) (ini [l_a0, tag_a1]) := by kernel_rfl
theorem c28 {l_a0 tag_a1 : Value} {R : Value → A} {h : Hp} (H : C28 l_a0 tag_a1 R h) : FnW Tryz.prog 28 #[l_a0, tag_a1] R h :=
  fn_sound mixed (an := an28) Tryz.func28 (c := bodyOf Tryz.f28) (by kernel_rfl) (by kernel_rfl) (by kernel_rfl) (by rw [← e28]; exact H)
theorem b28 : ∃ fn, Tryz.prog.funcs[28]? = some fn ∧ fn.body.isSome = true ∧ (fn.name == "runtime.NumGoroutine") = false := ⟨_, Tryz.func28, by kernel_rfl, by kernel_rfl⟩

/- argosy/argosyref16.Same -/
def an29 : Ann := { loops := [(4, [5], [(4, 5), (11, 25)])], seqs := [], blks := [], plans := [(6, (.fl 0 (.fl 1 (.fl 2 (.fl 3 (.fl 4 (.fl 5 (.fl 6 (.fl 7 (.fl 8 (.nil))))))))), [[], [], [0, 1], [0, 1, 2], [], [], [4, 5], [4, 5, 6], [0, 1, 2, 3, 4, 5, 6, 7]]))] }
def C29 (a_a0 b_a1 : Value) (R : Value → A) : A :=
 lnS a_a0 fun v1 =>
 lnS b_a1 fun v2 =>
 bn .neq v1 v2 fun v3 =>
 cn v3
 (R (Value.bool false))
 (lp 1 (fun _ nx4 i_5 =>
 lnS a_a0 fun v6 =>
  bn .lss i_5 v6 fun v7 =>
  cn v7
  (ixs 4 a_a0 i_5 fun v8 =>
  ldn 4 v8 fun v9 =>
  ixs 4 b_a1 i_5 fun v10 =>
  ldn 4 v10 fun v11 =>
  be Tryz.prog 27 true v9 v11 fun v12 =>
  cn v12
  (R (Value.bool false))
  (bn .add i_5 (Value.int IntKind.i64 1) fun v13 =>
  nx4 v13))
  (R (Value.bool true))) [Value.int IntKind.i64 0])
theorem e29 (a_a0 b_a1 : Value) (R : Value → A) : C29 a_a0 b_a1 R = W Tryz.prog an29 (bodyOf Tryz.f29) (topQ Tryz.prog Tryz.f29.results R) (ini [a_a0, b_a1]) := by kernel_rfl
theorem c29 {a_a0 b_a1 : Value} {R : Value → A} {h : Hp} (H : C29 a_a0 b_a1 R h) : FnW Tryz.prog 29 #[a_a0, b_a1] R h :=
  fn_sound mixed (an := an29) Tryz.func29 (c := bodyOf Tryz.f29) (by kernel_rfl) (by kernel_rfl) (by kernel_rfl) (by rw [← e29]; exact H)
theorem b29 : ∃ fn, Tryz.prog.funcs[29]? = some fn ∧ fn.body.isSome = true ∧ (fn.name == "runtime.NumGoroutine") = false := ⟨_, Tryz.func29, by kernel_rfl, by kernel_rfl⟩

/- argosy/argosyref16.In -/
def an30 : Ann := { loops := [(2, [5], [(4, 17)])], seqs := [], blks := [], plans := [(4, (.fl 0 (.fl 1 (.fl 2 (.fl 3 (.fl 4 (.fl 5 (.nil)))))), [[], [], [0, 1], [0, 1, 2], [], [0, 1, 2, 3, 4]]))] }
def C30 (list_a0 tag_a1 : Value) (R : Value → A) : A :=
 bx 27 tag_a1 fun tag_1 =>
 lp 1 (fun _ nx2 i_3 =>
 lnS list_a0 fun v4 =>
  bn .lss i_3 v4 fun v5 =>
  cn v5
  (ixs 4 list_a0 i_3 fun v6 =>
  ldn 4 v6 fun v7 =>
  ldn 4 tag_1 fun v8 =>
  be Tryz.prog 27 false v7 v8 fun v9 =>
  cn v9
  (R (Value.bool true))
  (bn .add i_3 (Value.int IntKind.i64 1) fun v10 =>
  nx2 v10))
  (R (Value.bool false))) [Value.int IntKind.i64 0]
theorem e30 (list_a0 tag_a1 : Value) (R : Value → A) : C30 list_a0 tag_a1 R = W Tryz.prog an30 (bodyOf Tryz.f30) (topQ Tryz.prog Tryz.f30.results R) (ini [list_a0, tag_a1]) := by kernel_rfl
theorem c30 {list_a0 tag_a1 : Value} {R : Value → A} {h : Hp} (H : C30 list_a0 tag_a1 R h) : FnW Tryz.prog 30 #[list_a0, tag_a1] R h :=
  fn_sound mixed (an := an30) Tryz.func30 (c := bodyOf Tryz.f30) (by kernel_rfl) (by kernel_rfl) (by kernel_rfl) (by rw [← e30]; exact H)
theorem b30 : ∃ fn, Tryz.prog.funcs[30]? = some fn ∧ fn.body.isSome = true ∧ (fn.name == "runtime.NumGoroutine") = false := ⟨_, Tryz.func30, by kernel_rfl, by kernel_rfl⟩

/- (*argosy/locks.Locks).Parked -/
def an31 : Ann := { loops := [], seqs := [], blks := [], plans := [] }
def C31 (l_a0 key_a1 : Value) (R : Value → A) : A :=
 nc l_a0 fun v1 =>
 fa v1 0 fun v2 =>
 ld1 v2 fun v3 =>
 qt Tryz.prog (Instr.lookup 207 v3 key_a1 false) fun v4 =>
 be Tryz.prog 221 true v4 (Value.pointer none) fun v5 =>
 cn v5
 (nc v4 fun v6 =>
  fa v6 1 fun v7 =>
  ld1 v7 fun v8 =>
  cl Tryz.prog 113 [v8] fun v9 =>
  R v9)
 (R (Value.slice none 0 0))
theorem e31 (l_a0 key_a1 : Value) (R : Value → A) : C31 l_a0 key_a1 R = W Tryz.prog an31 (bodyOf Tryz.f31) (topQ Tryz.prog Tryz.f31.results R) (ini [l_a0, key_a1]) := by kernel_rfl
theorem c31 {l_a0 key_a1 : Value} {R : Value → A} {h : Hp} (H : C31 l_a0 key_a1 R h) : FnW Tryz.prog 31 #[l_a0, key_a1] R h :=
  fn_sound mixed (an := an31) Tryz.func31 (c := bodyOf Tryz.f31) (by kernel_rfl) (by kernel_rfl) (by kernel_rfl) (by rw [← e31]; exact H)
theorem b31 : ∃ fn, Tryz.prog.funcs[31]? = some fn ∧ fn.body.isSome = true ∧ (fn.name == "runtime.NumGoroutine") = false := ⟨_, Tryz.func31, by kernel_rfl, by kernel_rfl⟩

/- (*argosy/argosyref06.Store).Get -/
def an83 : Ann := { loops := [(2, [5], [(5, 32)])], seqs := [], blks := [], plans := [] }
def C83 (s_a0 key_a1 : Value) (R : Value → A) : A :=
 al [Value.bool false, Value.slice none 0 0, Value.int IntKind.i64 0, Value.int IntKind.u64 0] 86 fun v1 =>
 lp 1 (fun _ nx2 i_3 =>
 nc s_a0 fun v4 =>
  fa v4 1 fun v5 =>
  ld1 v5 fun v6 =>
  lnS v6 fun v7 =>
  bn .lss i_3 v7 fun v8 =>
  cn v8
  (nc s_a0 fun v9 =>
  fa v9 1 fun v10 =>
  ld1 v10 fun v11 =>
  ixs 5 v11 i_3 fun v12 =>
  fa v12 0 fun v13 =>
  ld1 v13 fun v14 =>
  bn .eql v14 key_a1 fun v15 =>
  cn v15
  (nc s_a0 fun v16 =>
   fa v16 1 fun v17 =>
   ld1 v17 fun v18 =>
   ixs 5 v18 i_3 fun v19 =>
   fa v19 1 fun v20 =>
   ldn 4 v20 fun v21 =>
   st 4 v1 v21 <|
   ldn 4 v1 fun v22 => R v22)
  (bn .add i_3 (Value.int IntKind.i64 1) fun v23 =>
  nx2 v23))
  (nc s_a0 fun v24 =>
 fa v24 0 fun v25 =>
 ld1 v25 fun v26 =>
 cl Tryz.prog 182 [key_a1, v26] fun v27 =>
 bd [Value.bool false, Value.slice none 0 0, Value.int IntKind.i64 0, Value.int IntKind.u64 0] [(2, 1, v27)] fun v28 =>
 st 4 v1 v28 <|
 ldn 4 v1 fun v29 => R v29)) [Value.int IntKind.i64 0]
theorem e83 (s_a0 key_a1 : Value) (R : Value → A) : C83 s_a0 key_a1 R = W Tryz.prog an83 (bodyOf Tryz.f83) (topQ Tryz.prog Tryz.f83.results R) (ini [s_a0, key_a1]) := by kernel_rfl
theorem c83 {s_a0 key_a1 : Value} {R : Value → A} {h : Hp} (H : C83 s_a0 key_a1 R h) : FnW Tryz.prog 83 #[s_a0, key_a1] R h :=
  fn_sound mixed (an := an83) Tryz.func83 (c := bodyOf Tryz.f83) (by kernel_rfl) (by kernel_rfl) (by kernel_rfl) (by rw [← e83]; exact H)
theorem b83 : ∃ fn, Tryz.prog.funcs[83]? = some fn ∧ fn.body.isSome = true ∧ (fn.name == "runtime.NumGoroutine") = false := ⟨_, Tryz.func83, by kernel_rfl, by kernel_rfl⟩

/- (*argosy/locks.Locks).Enter -/
def an100 : Ann := { loops := [(2, [13], [(9, 10), (13, 76)])], seqs := [], blks := [(1, [], [(9, 10), (15, 75)]), (2, [], [(43, 75)])], plans := [(5, (.fl 0 (.fl 1 (.fl 2 (.fl 3 (.fl 4 (.mu 5 [3] (.mu 6 [] (.fl 7 (.fl 8 (.fl 9 (.fl 10 (.fl 11 (.fl 12 (.mu 13 [11] (.mu 14 [] (.fl 15 (.nil)))))))))))))))), [[], [0], [0, 1], [0, 1, 2], [], [4], [0, 1, 2, 3, 4, 5], [0, 1, 2, 3, 4, 5, 6], [0, 1, 2, 3, 4, 5, 6, 7], [0, 1, 2, 3, 4, 5, 6, 7, 8], [0, 1, 2, 3, 4, 5, 6, 7, 8, 9], [0, 1, 2, 3, 4, 5, 6, 7, 8, 9, 10], [0, 1, 2, 3, 4, 5, 6, 7], [0, 1, 2, 3, 4, 5, 6, 7, 12], [0, 1, 2, 3, 4, 5, 6, 7, 8, 9, 10, 11, 12, 13], [0, 1, 2, 3, 4, 5, 6, 7, 8, 9, 10, 11, 12, 13, 14]])), (6, (.fl 0 (.fl 1 (.fl 2 (.fl 4 (.mu 3 [4] (.mu 5 [] (.nil)))))), [[], [], [1], [0, 1, 2], [], [0, 1, 2, 3, 4]])), (7, (.fl 0 (.fl 1 (.fl 2 (.fl 3 (.fl 4 (.mu 5 [] (.nil)))))), [[], [0], [0, 1], [0, 1, 2], [], [0, 1, 2, 3, 4]])), (9, (.fl 0 (.fl 1 (.fl 2 (.fl 3 (.fl 4 (.fl 5 (.fl 6 (.fl 7 (.mu 8 [4] (.mu 9 [] (.fl 10 (.fl 11 (.mu 12 [] (.nil))))))))))))), [[], [], [1], [1, 2], [1, 2, 3], [], [], [5, 6], [5, 6, 7], [1, 2, 3, 4, 5, 6, 7, 8], [0, 1, 2, 3, 4, 5, 6, 7, 8, 9], [0, 1, 2, 3, 4, 5, 6, 7, 8, 9, 10], [0, 1, 2, 3, 4, 5, 6, 7, 8, 9, 10, 11]])), (11, (.fl 0 (.fl 1 (.fl 2 (.fl 3 (.fl 4 (.fl 5 (.fl 6 (.fl 7 (.mu 8 [4] (.mu 9 [] (.fl 10 (.fl 11 (.mu 12 [] (.nil))))))))))))), [[], [], [1], [1, 2], [1, 2, 3], [], [], [5, 6], [5, 6, 7], [1, 2, 3, 4, 5, 6, 7, 8], [0, 1, 2, 3, 4, 5, 6, 7, 8, 9], [0, 1, 2, 3, 4, 5, 6, 7, 8, 9, 10], [0, 1, 2, 3, 4, 5, 6, 7, 8, 9, 10, 11]]))] }
def C100 (l_a0 s_a1 tag_a2 marks_a3 : Value) (R : Value → A) : A :=
 bx 27 tag_a2 fun tag_1 =>
 lnS marks_a3 fun v2 =>
 lp 1 (fun _ nx3 v4 =>
 bn .lss v4 v2 fun v5 =>
  cn v5
  (jn 0 (fun k6 =>
  ixs 3 marks_a3 v4 fun v7 =>
   ldn 3 v7 fun v8 =>
   al [Value.string { data := #[] }, Value.int IntKind.i64 0, Value.int IntKind.u64 0] 164 fun m_9 =>
   st 3 m_9 v8 <|
   fa m_9 0 fun v10 =>
   ld1 v10 fun v11 =>
   cl Tryz.prog 218 [l_a0, v11] fun v12 =>
   nc v12 fun v13 =>
   fa v13 0 fun v14 =>
   ld1 v14 fun v15 =>
   ldn 4 tag_1 fun v16 =>
   cl Tryz.prog 115 [v16] fun v17 =>
   an2 (ld1 v14 (fun u _ => u = v15)) <|
   cl Tryz.prog 118 [v15, v17] fun v18 =>
   gd v18 false (fun k => k v12) fun v19 =>
   gd v18 false (nc v19) fun v20 =>
   gd v18 false (fa v20 1) fun v21 =>
   gd v18 false (ld1 v21) fun v22 =>
   gd v18 false (ldn 4 tag_1) fun v23 =>
   gd v18 false (cl Tryz.prog 115 [v23]) fun v24 =>
   an2 (gd v18 false (ld1 v21) (fun u _ => u = v22)) <|
   gd v18 false (cl Tryz.prog 118 [v22, v24]) fun v25 =>
   pk v18 (Value.bool true) v25 fun v26 =>
   cn v26
   (k6)
   (fa m_9 0 fun v27 =>
   ld1 v27 fun v28 =>
   ldn 3 m_9 fun v29 =>
   cl Tryz.prog 135 [s_a1, v28] fun v30 =>
   an2 (ldn 3 m_9 (fun u _ => u = v29)) <|
   cl Tryz.prog 219 [v30, v29] fun v31 =>
   jn 0 (fun k32 =>
   bn .eql v31 (Value.int IntKind.i64 0) fun v33 =>
    cn v33
    (nc v12 fun v34 =>
     fa v34 0 fun v35 =>
     ld1 v35 fun v36 =>
     ldn 4 tag_1 fun v37 =>
     ldn 3 m_9 fun v38 =>
     bd [Value.int IntKind.i64 0, Value.int IntKind.u64 0, Value.int IntKind.u64 0, Value.int IntKind.i64 0, Value.string { data := #[] }, Value.int IntKind.i64 0, Value.int IntKind.u64 0] [(0, 4, v37), (4, 3, v38)] fun v39 =>
     bsl [Value.int IntKind.i64 0, Value.int IntKind.u64 0, Value.int IntKind.u64 0, Value.int IntKind.i64 0, Value.string { data := #[] }, Value.int IntKind.i64 0, Value.int IntKind.u64 0] 229 1 [(0, 7, v39)] fun v40 =>
     an2 (ld1 v35 (fun u _ => u = v36)) <|
     apd [Value.int IntKind.i64 0, Value.int IntKind.u64 0, Value.int IntKind.u64 0, Value.int IntKind.i64 0, Value.string { data := #[] }, Value.int IntKind.i64 0, Value.int IntKind.u64 0] 64 229 v36 v40 fun v41 =>
     nc v12 fun v42 =>
     fa v42 0 fun v43 =>
     st 1 v43 v41 <|
     k32)
    (bn .eql v31 (Value.int IntKind.i64 1) fun v44 =>
     cn v44
     (nc v12 fun v45 =>
      fa v45 1 fun v46 =>
      ld1 v46 fun v47 =>
      ldn 4 tag_1 fun v48 =>
      ldn 3 m_9 fun v49 =>
      bd [Value.int IntKind.i64 0, Value.int IntKind.u64 0, Value.int IntKind.u64 0, Value.int IntKind.i64 0, Value.string { data := #[] }, Value.int IntKind.i64 0, Value.int IntKind.u64 0] [(0, 4, v48), (4, 3, v49)] fun v50 =>
      bsl [Value.int IntKind.i64 0, Value.int IntKind.u64 0, Value.int IntKind.u64 0, Value.int IntKind.i64 0, Value.string { data := #[] }, Value.int IntKind.i64 0, Value.int IntKind.u64 0] 229 1 [(0, 7, v50)] fun v51 =>
      an2 (ld1 v46 (fun u _ => u = v47)) <|
      apd [Value.int IntKind.i64 0, Value.int IntKind.u64 0, Value.int IntKind.u64 0, Value.int IntKind.i64 0, Value.string { data := #[] }, Value.int IntKind.i64 0, Value.int IntKind.u64 0] 64 229 v47 v51 fun v52 =>
      nc v12 fun v53 =>
      fa v53 1 fun v54 =>
      st 1 v54 v52 <|
      k32)
     (nc l_a0 fun v55 =>
      fa v55 1 fun v56 =>
      ld1 v56 fun v57 =>
      ldn 4 tag_1 fun v58 =>
      ru Tryz.prog (Instr.mapUpdate 208 v57 v58 (Value.int IntKind.i64 1)) fun _ =>
      k32)))
   (fun _ =>
   k6)))
  (fun _ =>
  bn .add v4 (Value.int IntKind.i64 1) fun v59 =>
  nx3 v59))
  (R (Value.tuple #[]))) [Value.int IntKind.i64 0]
theorem e100 (l_a0 s_a1 tag_a2 marks_a3 : Value) (R : Value → A) : C100 l_a0 s_a1 tag_a2 marks_a3 R = W Tryz.prog an100 (bodyOf Tryz.f100) (topQ Tryz.prog Tryz.f100.results R) (ini [l_a0, s_a1, tag_a2, marks_a3]) := by kernel_rfl
theorem c100 {l_a0 s_a1 tag_a2 marks_a3 : Value} {R : Value → A} {h : Hp} (H : C100 l_a0 s_a1 tag_a2 marks_a3 R h) : FnW Tryz.prog 100 #[l_a0, s_a1, tag_a2, marks_a3] R h :=
  fn_sound mixed (an := an100) Tryz.func100 (c := bodyOf Tryz.f100) (by kernel_rfl) (by kernel_rfl) (by kernel_rfl) (by rw [← e100]; exact H)
theorem b100 : ∃ fn, Tryz.prog.funcs[100]? = some fn ∧ fn.body.isSome = true ∧ (fn.name == "runtime.NumGoroutine") = false := ⟨_, Tryz.func100, by kernel_rfl, by kernel_rfl⟩

/- argosy/argosylaw16.tag -/
def an101 : Ann := { loops := [], seqs := [], blks := [], plans := [] }
def C101 (n_a0 : Value) (R : Value → A) : A :=
 al [Value.int IntKind.i64 0, Value.int IntKind.u64 0, Value.int IntKind.u64 0, Value.int IntKind.i64 0] 27 fun v1 =>
 bd [Value.int IntKind.i64 0, Value.int IntKind.u64 0, Value.int IntKind.u64 0] [(2, 1, n_a0)] fun v2 =>
 bd [Value.int IntKind.i64 0, Value.int IntKind.u64 0, Value.int IntKind.u64 0, Value.int IntKind.i64 0] [(0, 3, v2)] fun v3 =>
 st 4 v1 v3 <|
 ldn 4 v1 fun v4 => R v4
theorem e101 (n_a0 : Value) (R : Value → A) : C101 n_a0 R = W Tryz.prog an101 (bodyOf Tryz.f101) (topQ Tryz.prog Tryz.f101.results R) (ini [n_a0]) := by kernel_rfl
theorem c101 {n_a0 : Value} {R : Value → A} {h : Hp} (H : C101 n_a0 R h) : FnW Tryz.prog 101 #[n_a0] R h :=
  fn_sound mixed (an := an101) Tryz.func101 (c := bodyOf Tryz.f101) (by kernel_rfl) (by kernel_rfl) (by kernel_rfl) (by rw [← e101]; exact H)
theorem b101 : ∃ fn, Tryz.prog.funcs[101]? = some fn ∧ fn.body.isSome = true ∧ (fn.name == "runtime.NumGoroutine") = false := ⟨_, Tryz.func101, by kernel_rfl, by kernel_rfl⟩

/- argosy/btree.New[string,argosy/api.Record] -/
def an102 : Ann := { loops := [], seqs := [], blks := [], plans := [] }
def C102 (R : Value → A) : A :=
 bd [Value.slice none 0 0, Value.slice none 0 0] [] fun v1 =>
 bx 403 v1 fun v2 =>
 bd [Value.pointer none, Value.int IntKind.i64 0] [(0, 1, v2)] fun v3 =>
 bx 405 v3 fun v4 =>
 R v4
theorem e102 (R : Value → A) : C102 R = W Tryz.prog an102 (bodyOf Tryz.f102) (topQ Tryz.prog Tryz.f102.results R) (ini []) := by kernel_rfl
theorem c102 {R : Value → A} {h : Hp} (H : C102 R h) : FnW Tryz.prog 102 #[] R h :=
  fn_sound mixed (an := an102) Tryz.func102 (c := bodyOf Tryz.f102) (by kernel_rfl) (by kernel_rfl) (by kernel_rfl) (by rw [← e102]; exact H)
theorem b102 : ∃ fn, Tryz.prog.funcs[102]? = some fn ∧ fn.body.isSome = true ∧ (fn.name == "runtime.NumGoroutine") = false := ⟨_, Tryz.func102, by kernel_rfl, by kernel_rfl⟩

/- (*argosy/argosyref16.Locks).Leave -/
def an103 : Ann := { loops := [(5, [4, 5], [(4, 5), (25, 52)])], seqs := [], blks := [(1, [4], [(4, 4), (34, 52)])], plans := [(1, (.fl 0 (.fl 1 (.fl 2 (.fl 3 (.fl 4 (.fl 5 (.mu 6 [] (.fl 7 (.fl 8 (.mu 9 [] (.nil)))))))))), [[], [], [1], [1, 2], [1, 2, 3], [], [1, 2, 3, 4, 5], [0, 1, 2, 3, 4, 5, 6], [0, 1, 2, 3, 4, 5, 6, 7], [0, 1, 2, 3, 4, 5, 6, 7, 8]])), (2, (.fl 0 (.fl 1 (.fl 2 (.fl 3 (.fl 4 (.fl 5 (.mu 6 [] (.fl 7 (.fl 8 (.mu 9 [] (.nil)))))))))), [[], [], [1], [1, 2], [1, 2, 3], [], [1, 2, 3, 4, 5], [0, 1, 2, 3, 4, 5, 6], [0, 1, 2, 3, 4, 5, 6, 7], [0, 1, 2, 3, 4, 5, 6, 7, 8]])), (7, (.fl 0 (.fl 1 (.fl 2 (.fl 3 (.fl 4 (.fl 5 (.fl 6 (.fl 7 (.fl 8 (.nil))))))))), [[], [0], [0, 1], [0, 1, 2], [], [0, 1, 2, 3, 4], [0, 1, 2, 3, 4, 5], [], [0, 1, 2, 3, 4, 5, 6, 7]]))] }
def C103 (l_a0 tag_a1 : Value) (R : Value → A) : A :=
 bx 27 tag_a1 fun tag_1 =>
 nc l_a0 fun v2 =>
 fa v2 0 fun v3 =>
 ld1 v3 fun v4 =>
 ldn 4 tag_1 fun v5 =>
 cl Tryz.prog 220 [v4, v5] fun v6 =>
 nc l_a0 fun v7 =>
 fa v7 0 fun v8 =>
 st 1 v8 v6 <|
 nc l_a0 fun v9 =>
 fa v9 1 fun v10 =>
 ld1 v10 fun v11 =>
 ldn 4 tag_1 fun v12 =>
 cl Tryz.prog 220 [v11, v12] fun v13 =>
 nc l_a0 fun v14 =>
 fa v14 1 fun v15 =>
 st 1 v15 v13 <|
 bsl [Value.int IntKind.i64 0, Value.int IntKind.u64 0, Value.int IntKind.u64 0, Value.int IntKind.i64 0] 27 0 [] fun v16 =>
 lp 2 (fun _ nx17 left_18 i_19 =>
 nc l_a0 fun v20 =>
  fa v20 2 fun v21 =>
  ld1 v21 fun v22 =>
  lnS v22 fun v23 =>
  bn .lss i_19 v23 fun v24 =>
  cn v24
  (jn 1 (fun k25 =>
  nc l_a0 fun v26 =>
   fa v26 2 fun v27 =>
   ld1 v27 fun v28 =>
   ixs 4 v28 i_19 fun v29 =>
   ldn 4 v29 fun v30 =>
   ldn 4 tag_1 fun v31 =>
   be Tryz.prog 27 true v30 v31 fun v32 =>
   cn v32
   (nc l_a0 fun v33 =>
    fa v33 2 fun v34 =>
    ld1 v34 fun v35 =>
    ixs 4 v35 i_19 fun v36 =>
    ldn 4 v36 fun v37 =>
    bsl [Value.int IntKind.i64 0, Value.int IntKind.u64 0, Value.int IntKind.u64 0, Value.int IntKind.i64 0] 27 1 [(0, 4, v37)] fun v38 =>
    apd [Value.int IntKind.i64 0, Value.int IntKind.u64 0, Value.int IntKind.u64 0, Value.int IntKind.i64 0] 32 27 left_18 v38 fun v39 =>
    k25 v39)
   (k25 left_18))
  (fun _ left_40 =>
  bn .add i_19 (Value.int IntKind.i64 1) fun v41 =>
  nx17 left_40 v41))
  (nc l_a0 fun v42 =>
 fa v42 2 fun v43 =>
 st 1 v43 left_18 <|
 R (Value.tuple #[]))) [v16, Value.int IntKind.i64 0]
theorem e103 (l_a0 tag_a1 : Value) (R : Value → A) : C103 l_a0 tag_a1 R = W Tryz.prog an103 (bodyOf Tryz.f103) (topQ Tryz.prog Tryz.f103.results R) (ini [l_a0, tag_a1]) := by kernel_rfl
theorem c103 {l_a0 tag_a1 : Value} {R : Value → A} {h : Hp} (H : C103 l_a0 tag_a1 R h) : FnW Tryz.prog 103 #[l_a0, tag_a1] R h :=
  fn_sound mixed (an := an103) Tryz.func103 (c := bodyOf Tryz.f103) (by kernel_rfl) (by kernel_rfl) (by kernel_rfl) (by rw [← e103]; exact H)
theorem b103 : ∃ fn, Tryz.prog.funcs[103]? = some fn ∧ fn.body.isSome = true ∧ (fn.name == "runtime.NumGoroutine") = false := ⟨_, Tryz.func103, by kernel_rfl, by kernel_rfl⟩

/- (*argosy/store.Store).Move -/
def an104 : Ann := { loops := [], seqs := [], blks := [], plans := [] }
def C104 (s_a0 key_a1 home_a2 : Value) (R : Value → A) : A :=
 cl Tryz.prog 135 [s_a0, key_a1] fun v1 =>
 al [Value.bool false, Value.slice none 0 0, Value.int IntKind.i64 0, Value.int IntKind.u64 0] 86 fun r_2 =>
 st 4 r_2 v1 <|
 bn .lss home_a2 (Value.int IntKind.i64 0) fun v3 =>
 gd v3 false (fun k => k home_a2) fun v4 =>
 gd v3 false (fun k => k s_a0) fun v5 =>
 gd v3 false (nc v5) fun v6 =>
 gd v3 false (fa v6 0) fun v7 =>
 gd v3 false (ld1 v7) fun v8 =>
 gd v3 false (bn .geq v4 v8) fun v9 =>
 pk v3 (Value.bool true) v9 fun v10 =>
 cn v10
 (R (Value.int IntKind.i64 1))
 (fa r_2 3 fun v11 =>
  ld1 v11 fun v12 =>
  bn .eql v12 (Value.int IntKind.u64 18446744073709551615) fun v13 =>
  cn v13
  (R (Value.int IntKind.i64 111))
  (fa r_2 2 fun v14 =>
 st 1 v14 home_a2 <|
 fa r_2 3 fun v15 =>
 ld1 v15 fun v16 =>
 bn .add v16 (Value.int IntKind.u64 1) fun v17 =>
 fa r_2 3 fun v18 =>
 st 1 v18 v17 <|
 ldn 4 r_2 fun v19 =>
 cl Tryz.prog 221 [s_a0, key_a1, v19] fun v20 =>
 R (Value.int IntKind.i64 0)))
theorem e104 (s_a0 key_a1 home_a2 : Value) (R : Value → A) : C104 s_a0 key_a1 home_a2 R = W Tryz.prog an104 (bodyOf Tryz.f104) (topQ Tryz.prog Tryz.f104.results R) (ini [s_a0, key_a1, home_a2]) := by kernel_rfl
theorem c104 {s_a0 key_a1 home_a2 : Value} {R : Value → A} {h : Hp} (H : C104 s_a0 key_a1 home_a2 R h) : FnW Tryz.prog 104 #[s_a0, key_a1, home_a2] R h :=
  fn_sound mixed (an := an104) Tryz.func104 (c := bodyOf Tryz.f104) (by kernel_rfl) (by kernel_rfl) (by kernel_rfl) (by rw [← e104]; exact H)
theorem b104 : ∃ fn, Tryz.prog.funcs[104]? = some fn ∧ fn.body.isSome = true ∧ (fn.name == "runtime.NumGoroutine") = false := ⟨_, Tryz.func104, by kernel_rfl, by kernel_rfl⟩

/- (*argosy/argosyref06.Store).Move -/
def an105 : Ann := { loops := [], seqs := [], blks := [], plans := [] }
def C105 (s_a0 key_a1 home_a2 : Value) (R : Value → A) : A :=
 bn .lss home_a2 (Value.int IntKind.i64 0) fun v1 =>
 gd v1 false (fun k => k home_a2) fun v2 =>
 gd v1 false (fun k => k s_a0) fun v3 =>
 gd v1 false (nc v3) fun v4 =>
 gd v1 false (fa v4 0) fun v5 =>
 gd v1 false (ld1 v5) fun v6 =>
 gd v1 false (bn .geq v2 v6) fun v7 =>
 pk v1 (Value.bool true) v7 fun v8 =>
 cn v8
 (R (Value.int IntKind.i64 1))
 (cl Tryz.prog 83 [s_a0, key_a1] fun v9 =>
 al [Value.bool false, Value.slice none 0 0, Value.int IntKind.i64 0, Value.int IntKind.u64 0] 86 fun r_10 =>
 st 4 r_10 v9 <|
 fa r_10 3 fun v11 =>
 ld1 v11 fun v12 =>
 bn .eql v12 (Value.int IntKind.u64 18446744073709551615) fun v13 =>
 cn v13
 (R (Value.int IntKind.i64 111))
 (fa r_10 2 fun v14 =>
 st 1 v14 home_a2 <|
 fa r_10 3 fun v15 =>
 ld1 v15 fun v16 =>
 bn .add v16 (Value.int IntKind.u64 1) fun v17 =>
 fa r_10 3 fun v18 =>
 st 1 v18 v17 <|
 ldn 4 r_10 fun v19 =>
 cl Tryz.prog 137 [s_a0, key_a1, v19] fun v20 =>
 R (Value.int IntKind.i64 0)))
theorem e105 (s_a0 key_a1 home_a2 : Value) (R : Value → A) : C105 s_a0 key_a1 home_a2 R = W Tryz.prog an105 (bodyOf Tryz.f105) (topQ Tryz.prog Tryz.f105.results R) (ini [s_a0, key_a1, home_a2]) := by kernel_rfl
theorem c105 {s_a0 key_a1 home_a2 : Value} {R : Value → A} {h : Hp} (H : C105 s_a0 key_a1 home_a2 R h) : FnW Tryz.prog 105 #[s_a0, key_a1, home_a2] R h :=
  fn_sound mixed (an := an105) Tryz.func105 (c := bodyOf Tryz.f105) (by kernel_rfl) (by kernel_rfl) (by kernel_rfl) (by rw [← e105]; exact H)
theorem b105 : ∃ fn, Tryz.prog.funcs[105]? = some fn ∧ fn.body.isSome = true ∧ (fn.name == "runtime.NumGoroutine") = false := ⟨_, Tryz.func105, by kernel_rfl, by kernel_rfl⟩

/- (*argosy/locks.Locks).Moved -/
def an106 : Ann := { loops := [(3, [21], [(9, 9), (21, 36)])], seqs := [], blks := [(1, [], [(9, 9), (23, 35)])], plans := [(6, (.fl 0 (.fl 1 (.fl 2 (.fl 3 (.fl 4 (.fl 5 (.mu 6 [] (.nil))))))), [[], [0], [0, 1], [0, 1, 2], [], [4], [0, 1, 2, 3, 4, 5]])), (8, (.fl 0 (.fl 1 (.fl 2 (.fl 3 (.fl 4 (.fl 5 (.mu 6 [0] (.fl 7 (.fl 8 (.mu 9 [] (.nil)))))))))), [[], [], [1], [1, 2], [1, 2, 3], [], [1, 2, 3, 4, 5], [0, 1, 2, 3, 4, 5, 6], [0, 1, 2, 3, 4, 5, 6, 7], [0, 1, 2, 3, 4, 5, 6, 7, 8]]))] }
def C106 (l_a0 s_a1 key_a2 : Value) (R : Value → A) : A :=
 bx 34 l_a0 fun l_1 =>
 ld1 l_1 fun v2 =>
 cl Tryz.prog 218 [v2, key_a2] fun v3 =>
 cl Tryz.prog 135 [s_a1, key_a2] fun v4 =>
 al [Value.pointer none] 221 fun g_5 =>
 al [Value.bool false, Value.slice none 0 0, Value.int IntKind.i64 0, Value.int IntKind.u64 0] 86 fun r_6 =>
 st 1 g_5 v3 <|
 st 4 r_6 v4 <|
 ld1 g_5 fun v7 =>
 nc v7 fun v8 =>
 fa v8 0 fun v9 =>
 ld1 v9 fun v10 =>
 lnS v10 fun v11 =>
 lp 1 (fun _ nx12 v13 =>
 bn .lss v13 v11 fun v14 =>
  cn v14
  (jn 0 (fun k15 =>
  ixs 7 v10 v13 fun v16 =>
   ldn 7 v16 fun v17 =>
   al [Value.int IntKind.i64 0, Value.int IntKind.u64 0, Value.int IntKind.u64 0, Value.int IntKind.i64 0, Value.string { data := #[] }, Value.int IntKind.i64 0, Value.int IntKind.u64 0] 229 fun c_18 =>
   st 7 c_18 v17 <|
   ldn 4 r_6 fun v19 =>
   fa c_18 4 fun v20 =>
   ldn 3 v20 fun v21 =>
   cl Tryz.prog 219 [v19, v21] fun v22 =>
   bn .neq v22 (Value.int IntKind.i64 0) fun v23 =>
   cn v23
   (ld1 l_1 fun v24 =>
    nc v24 fun v25 =>
    fa v25 1 fun v26 =>
    ld1 v26 fun v27 =>
    fa c_18 0 fun v28 =>
    ldn 4 v28 fun v29 =>
    ru Tryz.prog (Instr.mapUpdate 208 v27 v29 (Value.int IntKind.i64 1)) fun _ =>
    k15)
   (k15))
  (fun _ =>
  bn .add v13 (Value.int IntKind.i64 1) fun v30 =>
  nx12 v30))
  (ld1 g_5 fun v31 =>
 ld1 g_5 fun v32 =>
 nc v32 fun v33 =>
 fa v33 1 fun v34 =>
 ld1 v34 fun v35 =>
 mf (Fn.func 222) [] [r_6, g_5, l_1] fun v36 =>
 cl Tryz.prog 114 [v35, v36] fun v37 =>
 an2 (ld1 g_5 (fun u _ => u = v31)) <|
 nc v31 fun v38 =>
 fa v38 1 fun v39 =>
 st 1 v39 v37 <|
 R (Value.tuple #[]))) [Value.int IntKind.i64 0]
theorem e106 (l_a0 s_a1 key_a2 : Value) (R : Value → A) : C106 l_a0 s_a1 key_a2 R = W Tryz.prog an106 (bodyOf Tryz.f106) (topQ Tryz.prog Tryz.f106.results R) (ini [l_a0, s_a1, key_a2]) := by kernel_rfl
theorem c106 {l_a0 s_a1 key_a2 : Value} {R : Value → A} {h : Hp} (H : C106 l_a0 s_a1 key_a2 R h) : FnW Tryz.prog 106 #[l_a0, s_a1, key_a2] R h :=
  fn_sound mixed (an := an106) Tryz.func106 (c := bodyOf Tryz.f106) (by kernel_rfl) (by kernel_rfl) (by kernel_rfl) (by rw [← e106]; exact H)
theorem b106 : ∃ fn, Tryz.prog.funcs[106]? = some fn ∧ fn.body.isSome = true ∧ (fn.name == "runtime.NumGoroutine") = false := ⟨_, Tryz.func106, by kernel_rfl, by kernel_rfl⟩

/- (*argosy/argosyref16.Locks).Moved -/
def an107 : Ann := { loops := [(2, [7], [(7, 7), (15, 57)]), (8, [8, 9], [(8, 11), (59, 109)])], seqs := [], blks := [(1, [], [(24, 57)]), (3, [8], [(8, 8), (10, 11), (68, 109)])], plans := [(4, (.fl 0 (.fl 1 (.fl 2 (.fl 3 (.fl 4 (.fl 5 (.fl 6 (.fl 7 (.fl 8 (.fl 9 (.fl 10 (.fl 11 (.fl 12 (.fl 13 (.fl 14 (.fl 15 (.fl 16 (.fl 17 (.fl 18 (.fl 19 (.fl 20 (.mu 21 [] (.fl 22 (.fl 23 (.nil)))))))))))))))))))))))), [[], [0], [0, 1], [0, 1, 2], [], [0, 1, 2, 3, 4], [0, 1, 2, 3, 4, 5], [0, 1, 2, 3, 4, 5, 6], [0, 1, 2, 3, 4, 5, 6, 7], [], [0, 1, 2, 3, 4, 5, 6, 7, 8, 9], [0, 1, 2, 3, 4, 5, 6, 7, 8, 9, 10], [0, 1, 2, 3, 4, 5, 6, 7, 8, 9, 10, 11], [0, 1, 2, 3, 4, 5, 6, 7, 8, 9, 10, 11], [0, 1, 2, 3, 4, 5, 6, 7, 8, 9, 10, 11, 13], [0, 1, 2, 3, 4, 5, 6, 7, 8, 9, 10, 11, 13, 14], [0, 1, 2, 3, 4, 5, 6, 7, 8, 9, 10, 11, 13, 14, 15], [0, 1, 2, 3, 4, 5, 6, 7, 8, 9, 10, 11], [0, 1, 2, 3, 4, 5, 6, 7, 8, 9, 10, 11, 13, 14, 15, 16, 17], [0, 1, 2, 3, 4, 5, 6, 7, 8, 9, 10, 11, 13, 14, 15, 16, 17, 18], [0, 1, 2, 3, 4, 5, 6, 7, 8, 9, 10, 11, 13, 14, 15, 16, 17, 18, 19], [0, 1, 2, 3, 4, 5, 6, 7, 8, 9, 10, 11, 12, 13, 14, 15, 16, 17, 18, 19, 20], [0, 1, 2, 3, 4, 5, 6, 7, 8, 9, 10, 11, 12, 13, 14, 15, 16, 17, 18, 19, 20, 21], [0, 1, 2, 3, 4, 5, 6, 7, 8, 9, 10, 11, 12, 13, 14, 15, 16, 17, 18, 19, 20, 21, 22]])), (15, (.fl 0 (.fl 2 (.fl 3 (.fl 4 (.fl 5 (.fl 7 (.alt (.mu 1 [5, 7] (.alt (.mu 6 [7] (.mu 8 [5] (.mu 9 [] (.fl 10 (.fl 11 (.mu 12 [] (.nil))))))) (.mu 8 [5] (.mu 6 [7] (.mu 9 [] (.fl 10 (.fl 11 (.mu 12 [] (.nil))))))))) (.mu 8 [5] (.mu 1 [5, 7] (.mu 6 [7] (.mu 9 [] (.fl 10 (.fl 11 (.mu 12 [] (.nil)))))))))))))), [[], [], [], [2], [2, 3], [2, 3, 4], [1, 2, 3, 4, 5], [], [7], [1, 2, 3, 4, 5, 6, 7, 8], [0, 1, 2, 3, 4, 5, 6, 7, 8, 9], [0, 1, 2, 3, 4, 5, 6, 7, 8, 9, 10], [0, 1, 2, 3, 4, 5, 6, 7, 8, 9, 10, 11]]))] }
def C107 (l_a0 s_a1 key_a2 : Value) (R : Value → A) : A :=
 cl Tryz.prog 83 [s_a1, key_a2] fun v1 =>
 al [Value.bool false, Value.slice none 0 0, Value.int IntKind.i64 0, Value.int IntKind.u64 0] 86 fun r_2 =>
 st 4 r_2 v1 <|
 lp 1 (fun _ nx3 i_4 =>
 nc l_a0 fun v5 =>
  fa v5 0 fun v6 =>
  ld1 v6 fun v7 =>
  lnS v7 fun v8 =>
  bn .lss i_4 v8 fun v9 =>
  cn v9
  (jn 0 (fun k10 =>
  nc l_a0 fun v11 =>
   fa v11 0 fun v12 =>
   ld1 v12 fun v13 =>
   ixs 7 v13 i_4 fun v14 =>
   fa v14 4 fun v15 =>
   fa v15 0 fun v16 =>
   ld1 v16 fun v17 =>
   bn .eql v17 key_a2 fun v18 =>
   gd v18 true (ldn 4 r_2) fun v19 =>
   gd v18 true (fun k => k l_a0) fun v20 =>
   gd v18 true (nc v20) fun v21 =>
   gd v18 true (fa v21 0) fun v22 =>
   gd v18 true (ld1 v22) fun v23 =>
   gd v18 true (fun k => k i_4) fun v24 =>
   gd v18 true (ixs 7 v23 v24) fun v25 =>
   gd v18 true (fa v25 4) fun v26 =>
   gd v18 true (ldn 3 v26) fun v27 =>
   gd v18 true (cl Tryz.prog 223 [v19, v27]) fun v28 =>
   gd v18 true (bn .neq v28 (Value.int IntKind.i64 0)) fun v29 =>
   pk v18 v29 (Value.bool false) fun v30 =>
   cn v30
   (nc l_a0 fun v31 =>
    fa v31 0 fun v32 =>
    ld1 v32 fun v33 =>
    ixs 7 v33 i_4 fun v34 =>
    fa v34 0 fun v35 =>
    ldn 4 v35 fun v36 =>
    cl Tryz.prog 224 [l_a0, v36] fun v37 =>
    k10)
   (k10))
  (fun _ =>
  bn .add i_4 (Value.int IntKind.i64 1) fun v38 =>
  nx3 v38))
  (bsl [Value.int IntKind.i64 0, Value.int IntKind.u64 0, Value.int IntKind.u64 0, Value.int IntKind.i64 0, Value.string { data := #[] }, Value.int IntKind.i64 0, Value.int IntKind.u64 0] 408 0 [] fun v39 =>
 lp 2 (fun _ nx40 left_41 i_42 =>
 nc l_a0 fun v43 =>
  fa v43 1 fun v44 =>
  ld1 v44 fun v45 =>
  lnS v45 fun v46 =>
  bn .lss i_42 v46 fun v47 =>
  cn v47
  (jn 1 (fun k48 =>
  nc l_a0 fun v49 =>
   fa v49 1 fun v50 =>
   ld1 v50 fun v51 =>
   ixs 7 v51 i_42 fun v52 =>
   ldn 7 v52 fun v53 =>
   al [Value.int IntKind.i64 0, Value.int IntKind.u64 0, Value.int IntKind.u64 0, Value.int IntKind.i64 0, Value.string { data := #[] }, Value.int IntKind.i64 0, Value.int IntKind.u64 0] 408 fun c_54 =>
   st 7 c_54 v53 <|
   ldn 4 r_2 fun v55 =>
   fa c_54 4 fun v56 =>
   ldn 3 v56 fun v57 =>
   cl Tryz.prog 223 [v55, v57] fun v58 =>
   fa c_54 4 fun v59 =>
   fa v59 0 fun v60 =>
   ld1 v60 fun v61 =>
   bn .neq v61 key_a2 fun v62 =>
   gd v62 false (fun k => k v58) fun v63 =>
   gd v62 false (bn .eql v63 (Value.int IntKind.i64 1)) fun v64 =>
   pk v62 (Value.bool true) v64 fun v65 =>
   cn v65
   (ldn 7 c_54 fun v66 =>
    bsl [Value.int IntKind.i64 0, Value.int IntKind.u64 0, Value.int IntKind.u64 0, Value.int IntKind.i64 0, Value.string { data := #[] }, Value.int IntKind.i64 0, Value.int IntKind.u64 0] 408 1 [(0, 7, v66)] fun v67 =>
    apd [Value.int IntKind.i64 0, Value.int IntKind.u64 0, Value.int IntKind.u64 0, Value.int IntKind.i64 0, Value.string { data := #[] }, Value.int IntKind.i64 0, Value.int IntKind.u64 0] 64 408 left_41 v67 fun v68 =>
    k48 v68)
   (bn .eql v58 (Value.int IntKind.i64 0) fun v69 =>
    cn v69
    (nc l_a0 fun v70 =>
     fa v70 0 fun v71 =>
     ld1 v71 fun v72 =>
     ldn 7 c_54 fun v73 =>
     an2 (bsl [Value.int IntKind.i64 0, Value.int IntKind.u64 0, Value.int IntKind.u64 0, Value.int IntKind.i64 0, Value.string { data := #[] }, Value.int IntKind.i64 0, Value.int IntKind.u64 0] 408 0 [] fun v74 =>
     an2 (ld1 v71 (fun u _ => u = v72)) <|
     an2 (ldn 7 c_54 (fun u _ => u = v73)) <|
     an2 (apd [Value.int IntKind.i64 0, Value.int IntKind.u64 0, Value.int IntKind.u64 0, Value.int IntKind.i64 0, Value.string { data := #[] }, Value.int IntKind.i64 0, Value.int IntKind.u64 0] 64 408 v74 v72 fun v75 =>
     an2 (ldn 7 c_54 (fun u _ => u = v73)) <|
     bsl [Value.int IntKind.i64 0, Value.int IntKind.u64 0, Value.int IntKind.u64 0, Value.int IntKind.i64 0, Value.string { data := #[] }, Value.int IntKind.i64 0, Value.int IntKind.u64 0] 408 1 [(0, 7, v73)] fun v76 =>
     an2 (ld1 v71 (fun u _ => u = v72)) <|
     apd [Value.int IntKind.i64 0, Value.int IntKind.u64 0, Value.int IntKind.u64 0, Value.int IntKind.i64 0, Value.string { data := #[] }, Value.int IntKind.i64 0, Value.int IntKind.u64 0] 64 408 v75 v76 fun v77 =>
     nc l_a0 fun v78 =>
     fa v78 0 fun v79 =>
     st 1 v79 v77 <|
     k48 left_41) (bsl [Value.int IntKind.i64 0, Value.int IntKind.u64 0, Value.int IntKind.u64 0, Value.int IntKind.i64 0, Value.string { data := #[] }, Value.int IntKind.i64 0, Value.int IntKind.u64 0] 408 1 [(0, 7, v73)] fun v80 =>
     an2 (ld1 v71 (fun u _ => u = v72)) <|
     apd [Value.int IntKind.i64 0, Value.int IntKind.u64 0, Value.int IntKind.u64 0, Value.int IntKind.i64 0, Value.string { data := #[] }, Value.int IntKind.i64 0, Value.int IntKind.u64 0] 64 408 v74 v72 fun v81 =>
     an2 (ldn 7 c_54 (fun u _ => u = v73)) <|
     apd [Value.int IntKind.i64 0, Value.int IntKind.u64 0, Value.int IntKind.u64 0, Value.int IntKind.i64 0, Value.string { data := #[] }, Value.int IntKind.i64 0, Value.int IntKind.u64 0] 64 408 v81 v80 fun v82 =>
     nc l_a0 fun v83 =>
     fa v83 0 fun v84 =>
     st 1 v84 v82 <|
     k48 left_41)) (bsl [Value.int IntKind.i64 0, Value.int IntKind.u64 0, Value.int IntKind.u64 0, Value.int IntKind.i64 0, Value.string { data := #[] }, Value.int IntKind.i64 0, Value.int IntKind.u64 0] 408 1 [(0, 7, v73)] fun v85 =>
     an2 (ld1 v71 (fun u _ => u = v72)) <|
     bsl [Value.int IntKind.i64 0, Value.int IntKind.u64 0, Value.int IntKind.u64 0, Value.int IntKind.i64 0, Value.string { data := #[] }, Value.int IntKind.i64 0, Value.int IntKind.u64 0] 408 0 [] fun v86 =>
     an2 (ld1 v71 (fun u _ => u = v72)) <|
     an2 (ldn 7 c_54 (fun u _ => u = v73)) <|
     apd [Value.int IntKind.i64 0, Value.int IntKind.u64 0, Value.int IntKind.u64 0, Value.int IntKind.i64 0, Value.string { data := #[] }, Value.int IntKind.i64 0, Value.int IntKind.u64 0] 64 408 v86 v72 fun v87 =>
     an2 (ldn 7 c_54 (fun u _ => u = v73)) <|
     apd [Value.int IntKind.i64 0, Value.int IntKind.u64 0, Value.int IntKind.u64 0, Value.int IntKind.i64 0, Value.string { data := #[] }, Value.int IntKind.i64 0, Value.int IntKind.u64 0] 64 408 v87 v85 fun v88 =>
     nc l_a0 fun v89 =>
     fa v89 0 fun v90 =>
     st 1 v90 v88 <|
     k48 left_41))
    (fa c_54 0 fun v91 =>
     ldn 4 v91 fun v92 =>
     cl Tryz.prog 224 [l_a0, v92] fun v93 =>
     k48 left_41)))
  (fun _ left_94 =>
  bn .add i_42 (Value.int IntKind.i64 1) fun v95 =>
  nx40 left_94 v95))
  (nc l_a0 fun v96 =>
 fa v96 1 fun v97 =>
 st 1 v97 left_41 <|
 R (Value.tuple #[]))) [v39, Value.int IntKind.i64 0])) [Value.int IntKind.i64 0]
theorem e107 (l_a0 s_a1 key_a2 : Value) (R : Value → A) : C107 l_a0 s_a1 key_a2 R = W Tryz.prog an107 (bodyOf Tryz.f107) (topQ Tryz.prog Tryz.f107.results R) (ini [l_a0, s_a1, key_a2]) := by kernel_rfl
theorem c107 {l_a0 s_a1 key_a2 : Value} {R : Value → A} {h : Hp} (H : C107 l_a0 s_a1 key_a2 R h) : FnW Tryz.prog 107 #[l_a0, s_a1, key_a2] R h :=
  fn_sound mixed (an := an107) Tryz.func107 (c := bodyOf Tryz.f107) (by kernel_rfl) (by kernel_rfl) (by kernel_rfl) (by rw [← e107]; exact H)
theorem b107 : ∃ fn, Tryz.prog.funcs[107]? = some fn ∧ fn.body.isSome = true ∧ (fn.name == "runtime.NumGoroutine") = false := ⟨_, Tryz.func107, by kernel_rfl, by kernel_rfl⟩

/- (*argosy/argosyref16.Locks).Enter -/
def an108 : Ann := { loops := [(2, [8], [(8, 79)])], seqs := [], blks := [(1, [], [(9, 10), (17, 79)])], plans := [(5, (.fl 0 (.fl 1 (.fl 2 (.fl 3 (.fl 4 (.fl 5 (.fl 6 (.mu 7 [] (.fl 8 (.fl 9 (.fl 10 (.fl 11 (.fl 12 (.fl 13 (.fl 14 (.fl 15 (.mu 16 [] (.fl 17 (.nil)))))))))))))))))), [[], [0], [0, 1], [0, 1, 2], [], [4], [], [0, 1, 2, 3, 4, 5, 6], [0, 1, 2, 3, 4, 5, 6, 7], [0, 1, 2, 3, 4, 5, 6, 7, 8], [0, 1, 2, 3, 4, 5, 6, 7, 8, 9], [0, 1, 2, 3, 4, 5, 6, 7, 8, 9, 10], [0, 1, 2, 3, 4, 5, 6, 7, 8, 9, 10, 11], [0, 1, 2, 3, 4, 5, 6, 7, 8], [0, 1, 2, 3, 4, 5, 6, 7, 8, 13], [0, 1, 2, 3, 4, 5, 6, 7, 8], [0, 1, 2, 3, 4, 5, 6, 7, 8, 9, 10, 11, 12, 13, 14, 15], [0, 1, 2, 3, 4, 5, 6, 7, 8, 9, 10, 11, 12, 13, 14, 15, 16]])), (6, (.fl 0 (.fl 1 (.fl 2 (.fl 4 (.mu 3 [4] (.mu 5 [] (.mu 6 [] (.nil))))))), [[], [], [1], [0, 1, 2], [], [0, 1, 2, 3, 4], [0, 1, 2, 3, 4, 5]])), (8, (.fl 0 (.fl 2 (.fl 3 (.fl 4 (.fl 5 (.fl 7 (.fl 8 (.fl 9 (.alt (.mu 1 [5, 7, 8] (.alt (.mu 6 [7, 8] (.mu 10 [5] (.mu 11 [] (.fl 12 (.fl 13 (.mu 14 [] (.nil))))))) (.mu 10 [5] (.mu 6 [7, 8] (.mu 11 [] (.fl 12 (.fl 13 (.mu 14 [] (.nil))))))))) (.mu 10 [5] (.mu 1 [5, 7, 8] (.mu 6 [7, 8] (.mu 11 [] (.fl 12 (.fl 13 (.mu 14 [] (.nil)))))))))))))))), [[], [], [], [2], [2, 3], [2, 3, 4], [1, 2, 3, 4, 5], [], [], [7, 8], [7, 8, 9], [1, 2, 3, 4, 5, 6, 7, 8, 9, 10], [0, 1, 2, 3, 4, 5, 6, 7, 8, 9, 10, 11], [0, 1, 2, 3, 4, 5, 6, 7, 8, 9, 10, 11, 12], [0, 1, 2, 3, 4, 5, 6, 7, 8, 9, 10, 11, 12, 13]])), (10, (.fl 0 (.fl 2 (.fl 3 (.fl 4 (.fl 5 (.fl 7 (.fl 8 (.fl 9 (.alt (.mu 1 [5, 7, 8] (.alt (.mu 6 [7, 8] (.mu 10 [5] (.mu 11 [] (.fl 12 (.fl 13 (.mu 14 [] (.nil))))))) (.mu 10 [5] (.mu 6 [7, 8] (.mu 11 [] (.fl 12 (.fl 13 (.mu 14 [] (.nil))))))))) (.mu 10 [5] (.mu 1 [5, 7, 8] (.mu 6 [7, 8] (.mu 11 [] (.fl 12 (.fl 13 (.mu 14 [] (.nil)))))))))))))))), [[], [], [], [2], [2, 3], [2, 3, 4], [1, 2, 3, 4, 5], [], [], [7, 8], [7, 8, 9], [1, 2, 3, 4, 5, 6, 7, 8, 9, 10], [0, 1, 2, 3, 4, 5, 6, 7, 8, 9, 10, 11], [0, 1, 2, 3, 4, 5, 6, 7, 8, 9, 10, 11, 12], [0, 1, 2, 3, 4, 5, 6, 7, 8, 9, 10, 11, 12, 13]]))] }
def C108 (l_a0 s_a1 tag_a2 marks_a3 : Value) (R : Value → A) : A :=
 bx 27 tag_a2 fun tag_1 =>
 lp 1 (fun _ nx2 i_3 =>
 lnS marks_a3 fun v4 =>
  bn .lss i_3 v4 fun v5 =>
  cn v5
  (jn 0 (fun k6 =>
  ixs 3 marks_a3 i_3 fun v7 =>
   ldn 3 v7 fun v8 =>
   al [Value.string { data := #[] }, Value.int IntKind.i64 0, Value.int IntKind.u64 0] 164 fun m_9 =>
   st 3 m_9 v8 <|
   nc l_a0 fun v10 =>
   fa v10 0 fun v11 =>
   ld1 v11 fun v12 =>
   fa m_9 0 fun v13 =>
   ld1 v13 fun v14 =>
   ldn 4 tag_1 fun v15 =>
   cl Tryz.prog 225 [v12, v14, v15] fun v16 =>
   gd v16 false (fun k => k l_a0) fun v17 =>
   gd v16 false (nc v17) fun v18 =>
   gd v16 false (fa v18 1) fun v19 =>
   gd v16 false (ld1 v19) fun v20 =>
   gd v16 false (fa m_9 0) fun v21 =>
   gd v16 false (ld1 v21) fun v22 =>
   gd v16 false (ldn 4 tag_1) fun v23 =>
   gd v16 false (cl Tryz.prog 225 [v20, v22, v23]) fun v24 =>
   pk v16 (Value.bool true) v24 fun v25 =>
   cn v25
   (k6)
   (fa m_9 0 fun v26 =>
   ld1 v26 fun v27 =>
   ldn 3 m_9 fun v28 =>
   cl Tryz.prog 83 [s_a1, v27] fun v29 =>
   an2 (ldn 3 m_9 (fun u _ => u = v28)) <|
   cl Tryz.prog 223 [v29, v28] fun v30 =>
   bn .eql v30 (Value.int IntKind.i64 0) fun v31 =>
   cn v31
   (nc l_a0 fun v32 =>
    fa v32 0 fun v33 =>
    ld1 v33 fun v34 =>
    ldn 4 tag_1 fun v35 =>
    ldn 3 m_9 fun v36 =>
    bd [Value.int IntKind.i64 0, Value.int IntKind.u64 0, Value.int IntKind.u64 0, Value.int IntKind.i64 0, Value.string { data := #[] }, Value.int IntKind.i64 0, Value.int IntKind.u64 0] [(0, 4, v35), (4, 3, v36)] fun v37 =>
    an2 (bsl [Value.int IntKind.i64 0, Value.int IntKind.u64 0, Value.int IntKind.u64 0, Value.int IntKind.i64 0, Value.string { data := #[] }, Value.int IntKind.i64 0, Value.int IntKind.u64 0] 408 0 [] fun v38 =>
    an2 (ld1 v33 (fun u _ => u = v34)) <|
    an2 (ldn 4 tag_1 (fun u _ => u = v35)) <|
    an2 (ldn 3 m_9 (fun u _ => u = v36)) <|
    an2 (apd [Value.int IntKind.i64 0, Value.int IntKind.u64 0, Value.int IntKind.u64 0, Value.int IntKind.i64 0, Value.string { data := #[] }, Value.int IntKind.i64 0, Value.int IntKind.u64 0] 64 408 v38 v34 fun v39 =>
    an2 (ldn 4 tag_1 (fun u _ => u = v35)) <|
    an2 (ldn 3 m_9 (fun u _ => u = v36)) <|
    bsl [Value.int IntKind.i64 0, Value.int IntKind.u64 0, Value.int IntKind.u64 0, Value.int IntKind.i64 0, Value.string { data := #[] }, Value.int IntKind.i64 0, Value.int IntKind.u64 0] 408 1 [(0, 7, v37)] fun v40 =>
    an2 (ld1 v33 (fun u _ => u = v34)) <|
    apd [Value.int IntKind.i64 0, Value.int IntKind.u64 0, Value.int IntKind.u64 0, Value.int IntKind.i64 0, Value.string { data := #[] }, Value.int IntKind.i64 0, Value.int IntKind.u64 0] 64 408 v39 v40 fun v41 =>
    nc l_a0 fun v42 =>
    fa v42 0 fun v43 =>
    st 1 v43 v41 <|
    k6) (bsl [Value.int IntKind.i64 0, Value.int IntKind.u64 0, Value.int IntKind.u64 0, Value.int IntKind.i64 0, Value.string { data := #[] }, Value.int IntKind.i64 0, Value.int IntKind.u64 0] 408 1 [(0, 7, v37)] fun v44 =>
    an2 (ld1 v33 (fun u _ => u = v34)) <|
    apd [Value.int IntKind.i64 0, Value.int IntKind.u64 0, Value.int IntKind.u64 0, Value.int IntKind.i64 0, Value.string { data := #[] }, Value.int IntKind.i64 0, Value.int IntKind.u64 0] 64 408 v38 v34 fun v45 =>
    an2 (ldn 4 tag_1 (fun u _ => u = v35)) <|
    an2 (ldn 3 m_9 (fun u _ => u = v36)) <|
    apd [Value.int IntKind.i64 0, Value.int IntKind.u64 0, Value.int IntKind.u64 0, Value.int IntKind.i64 0, Value.string { data := #[] }, Value.int IntKind.i64 0, Value.int IntKind.u64 0] 64 408 v45 v44 fun v46 =>
    nc l_a0 fun v47 =>
    fa v47 0 fun v48 =>
    st 1 v48 v46 <|
    k6)) (bsl [Value.int IntKind.i64 0, Value.int IntKind.u64 0, Value.int IntKind.u64 0, Value.int IntKind.i64 0, Value.string { data := #[] }, Value.int IntKind.i64 0, Value.int IntKind.u64 0] 408 1 [(0, 7, v37)] fun v49 =>
    an2 (ld1 v33 (fun u _ => u = v34)) <|
    bsl [Value.int IntKind.i64 0, Value.int IntKind.u64 0, Value.int IntKind.u64 0, Value.int IntKind.i64 0, Value.string { data := #[] }, Value.int IntKind.i64 0, Value.int IntKind.u64 0] 408 0 [] fun v50 =>
    an2 (ld1 v33 (fun u _ => u = v34)) <|
    an2 (ldn 4 tag_1 (fun u _ => u = v35)) <|
    an2 (ldn 3 m_9 (fun u _ => u = v36)) <|
    apd [Value.int IntKind.i64 0, Value.int IntKind.u64 0, Value.int IntKind.u64 0, Value.int IntKind.i64 0, Value.string { data := #[] }, Value.int IntKind.i64 0, Value.int IntKind.u64 0] 64 408 v50 v34 fun v51 =>
    an2 (ldn 4 tag_1 (fun u _ => u = v35)) <|
    an2 (ldn 3 m_9 (fun u _ => u = v36)) <|
    apd [Value.int IntKind.i64 0, Value.int IntKind.u64 0, Value.int IntKind.u64 0, Value.int IntKind.i64 0, Value.string { data := #[] }, Value.int IntKind.i64 0, Value.int IntKind.u64 0] 64 408 v51 v49 fun v52 =>
    nc l_a0 fun v53 =>
    fa v53 0 fun v54 =>
    st 1 v54 v52 <|
    k6))
   (bn .eql v30 (Value.int IntKind.i64 1) fun v55 =>
    cn v55
    (nc l_a0 fun v56 =>
     fa v56 1 fun v57 =>
     ld1 v57 fun v58 =>
     ldn 4 tag_1 fun v59 =>
     ldn 3 m_9 fun v60 =>
     bd [Value.int IntKind.i64 0, Value.int IntKind.u64 0, Value.int IntKind.u64 0, Value.int IntKind.i64 0, Value.string { data := #[] }, Value.int IntKind.i64 0, Value.int IntKind.u64 0] [(0, 4, v59), (4, 3, v60)] fun v61 =>
     an2 (bsl [Value.int IntKind.i64 0, Value.int IntKind.u64 0, Value.int IntKind.u64 0, Value.int IntKind.i64 0, Value.string { data := #[] }, Value.int IntKind.i64 0, Value.int IntKind.u64 0] 408 0 [] fun v62 =>
     an2 (ld1 v57 (fun u _ => u = v58)) <|
     an2 (ldn 4 tag_1 (fun u _ => u = v59)) <|
     an2 (ldn 3 m_9 (fun u _ => u = v60)) <|
     an2 (apd [Value.int IntKind.i64 0, Value.int IntKind.u64 0, Value.int IntKind.u64 0, Value.int IntKind.i64 0, Value.string { data := #[] }, Value.int IntKind.i64 0, Value.int IntKind.u64 0] 64 408 v62 v58 fun v63 =>
     an2 (ldn 4 tag_1 (fun u _ => u = v59)) <|
     an2 (ldn 3 m_9 (fun u _ => u = v60)) <|
     bsl [Value.int IntKind.i64 0, Value.int IntKind.u64 0, Value.int IntKind.u64 0, Value.int IntKind.i64 0, Value.string { data := #[] }, Value.int IntKind.i64 0, Value.int IntKind.u64 0] 408 1 [(0, 7, v61)] fun v64 =>
     an2 (ld1 v57 (fun u _ => u = v58)) <|
     apd [Value.int IntKind.i64 0, Value.int IntKind.u64 0, Value.int IntKind.u64 0, Value.int IntKind.i64 0, Value.string { data := #[] }, Value.int IntKind.i64 0, Value.int IntKind.u64 0] 64 408 v63 v64 fun v65 =>
     nc l_a0 fun v66 =>
     fa v66 1 fun v67 =>
     st 1 v67 v65 <|
     k6) (bsl [Value.int IntKind.i64 0, Value.int IntKind.u64 0, Value.int IntKind.u64 0, Value.int IntKind.i64 0, Value.string { data := #[] }, Value.int IntKind.i64 0, Value.int IntKind.u64 0] 408 1 [(0, 7, v61)] fun v68 =>
     an2 (ld1 v57 (fun u _ => u = v58)) <|
     apd [Value.int IntKind.i64 0, Value.int IntKind.u64 0, Value.int IntKind.u64 0, Value.int IntKind.i64 0, Value.string { data := #[] }, Value.int IntKind.i64 0, Value.int IntKind.u64 0] 64 408 v62 v58 fun v69 =>
     an2 (ldn 4 tag_1 (fun u _ => u = v59)) <|
     an2 (ldn 3 m_9 (fun u _ => u = v60)) <|
     apd [Value.int IntKind.i64 0, Value.int IntKind.u64 0, Value.int IntKind.u64 0, Value.int IntKind.i64 0, Value.string { data := #[] }, Value.int IntKind.i64 0, Value.int IntKind.u64 0] 64 408 v69 v68 fun v70 =>
     nc l_a0 fun v71 =>
     fa v71 1 fun v72 =>
     st 1 v72 v70 <|
     k6)) (bsl [Value.int IntKind.i64 0, Value.int IntKind.u64 0, Value.int IntKind.u64 0, Value.int IntKind.i64 0, Value.string { data := #[] }, Value.int IntKind.i64 0, Value.int IntKind.u64 0] 408 1 [(0, 7, v61)] fun v73 =>
     an2 (ld1 v57 (fun u _ => u = v58)) <|
     bsl [Value.int IntKind.i64 0, Value.int IntKind.u64 0, Value.int IntKind.u64 0, Value.int IntKind.i64 0, Value.string { data := #[] }, Value.int IntKind.i64 0, Value.int IntKind.u64 0] 408 0 [] fun v74 =>
     an2 (ld1 v57 (fun u _ => u = v58)) <|
     an2 (ldn 4 tag_1 (fun u _ => u = v59)) <|
     an2 (ldn 3 m_9 (fun u _ => u = v60)) <|
     apd [Value.int IntKind.i64 0, Value.int IntKind.u64 0, Value.int IntKind.u64 0, Value.int IntKind.i64 0, Value.string { data := #[] }, Value.int IntKind.i64 0, Value.int IntKind.u64 0] 64 408 v74 v58 fun v75 =>
     an2 (ldn 4 tag_1 (fun u _ => u = v59)) <|
     an2 (ldn 3 m_9 (fun u _ => u = v60)) <|
     apd [Value.int IntKind.i64 0, Value.int IntKind.u64 0, Value.int IntKind.u64 0, Value.int IntKind.i64 0, Value.string { data := #[] }, Value.int IntKind.i64 0, Value.int IntKind.u64 0] 64 408 v75 v73 fun v76 =>
     nc l_a0 fun v77 =>
     fa v77 1 fun v78 =>
     st 1 v78 v76 <|
     k6))
    (ldn 4 tag_1 fun v79 =>
     cl Tryz.prog 224 [l_a0, v79] fun v80 =>
     k6))))
  (fun _ =>
  bn .add i_3 (Value.int IntKind.i64 1) fun v81 =>
  nx2 v81))
  (R (Value.tuple #[]))) [Value.int IntKind.i64 0]
theorem e108 (l_a0 s_a1 tag_a2 marks_a3 : Value) (R : Value → A) : C108 l_a0 s_a1 tag_a2 marks_a3 R = W Tryz.prog an108 (bodyOf Tryz.f108) (topQ Tryz.prog Tryz.f108.results R) (ini [l_a0, s_a1, tag_a2, marks_a3]) := by kernel_rfl
theorem c108 {l_a0 s_a1 tag_a2 marks_a3 : Value} {R : Value → A} {h : Hp} (H : C108 l_a0 s_a1 tag_a2 marks_a3 R h) : FnW Tryz.prog 108 #[l_a0, s_a1, tag_a2, marks_a3] R h :=
  fn_sound mixed (an := an108) Tryz.func108 (c := bodyOf Tryz.f108) (by kernel_rfl) (by kernel_rfl) (by kernel_rfl) (by rw [← e108]; exact H)
theorem b108 : ∃ fn, Tryz.prog.funcs[108]? = some fn ∧ fn.body.isSome = true ∧ (fn.name == "runtime.NumGoroutine") = false := ⟨_, Tryz.func108, by kernel_rfl, by kernel_rfl⟩

/- slices.DeleteFunc[[]string,string] -/
def an109 : Ann := { loops := [(5, [5, 6], [(5, 7), (16, 35)])], seqs := [], blks := [(1, [5], [(5, 5), (7, 7), (22, 35)])], plans := [] }
def C109 (s_a0 del_a1 : Value) (R : Value → A) : A :=
 cl Tryz.prog 226 [s_a0, del_a1] fun v1 =>
 bn .eql v1 (Value.int IntKind.i64 (-1)) fun v2 =>
 cn v2
 (R s_a0)
 (bn .add v1 (Value.int IntKind.i64 1) fun v3 =>
 lp 2 (fun _ nx4 i_5 j_6 =>
 lnS s_a0 fun v7 =>
  bn .lss j_6 v7 fun v8 =>
  cn v8
  (jn 1 (fun k9 =>
  ixs 1 s_a0 j_6 fun v10 =>
   ld1 v10 fun v11 =>
   CV Tryz.prog del_a1 [v11] fun v12 =>
   un .not v12 fun v13 =>
   cn v13
   (ixs 1 s_a0 i_5 fun v14 =>
    st 1 v14 v11 <|
    bn .add i_5 (Value.int IntKind.i64 1) fun v15 =>
    k9 v15)
   (k9 i_5))
  (fun _ i_16 =>
  bn .add j_6 (Value.int IntKind.i64 1) fun v17 =>
  nx4 i_16 v17))
  (slc 1 (some i_5) none none s_a0 fun v18 =>
 ru Tryz.prog (Builtin.clear_ #[48] 0 #[v18]) fun v19 =>
 slc 1 none (some i_5) none s_a0 fun v20 =>
 R v20)) [v1, v3])
theorem e109 (s_a0 del_a1 : Value) (R : Value → A) : C109 s_a0 del_a1 R = W Tryz.prog an109 (bodyOf Tryz.f109) (topQ Tryz.prog Tryz.f109.results R) (ini [s_a0, del_a1]) := by kernel_rfl
theorem c109 {s_a0 del_a1 : Value} {R : Value → A} {h : Hp} (H : C109 s_a0 del_a1 R h) : FnW Tryz.prog 109 #[s_a0, del_a1] R h :=
  fn_sound mixed (an := an109) Tryz.func109 (c := bodyOf Tryz.f109) (by kernel_rfl) (by kernel_rfl) (by kernel_rfl) (by rw [← e109]; exact H)
theorem b109 : ∃ fn, Tryz.prog.funcs[109]? = some fn ∧ fn.body.isSome = true ∧ (fn.name == "runtime.NumGoroutine") = false := ⟨_, Tryz.func109, by kernel_rfl, by kernel_rfl⟩

/- slices.Sorted[string] -/
def an110 : Ann := { loops := [], seqs := [], blks := [], plans := [] }
def C110 (seq_a0 : Value) (R : Value → A) : A :=
 cl Tryz.prog 227 [seq_a0] fun v1 =>
 cl Tryz.prog 228 [v1] fun v2 =>
 R v1
theorem e110 (seq_a0 : Value) (R : Value → A) : C110 seq_a0 R = W Tryz.prog an110 (bodyOf Tryz.f110) (topQ Tryz.prog Tryz.f110.results R) (ini [seq_a0]) := by kernel_rfl
theorem c110 {seq_a0 : Value} {R : Value → A} {h : Hp} (H : C110 seq_a0 R h) : FnW Tryz.prog 110 #[seq_a0] R h :=
  fn_sound mixed (an := an110) Tryz.func110 (c := bodyOf Tryz.f110) (by kernel_rfl) (by kernel_rfl) (by kernel_rfl) (by rw [← e110]; exact H)
theorem b110 : ∃ fn, Tryz.prog.funcs[110]? = some fn ∧ fn.body.isSome = true ∧ (fn.name == "runtime.NumGoroutine") = false := ⟨_, Tryz.func110, by kernel_rfl, by kernel_rfl⟩

/- maps.Keys[map[string]*argosy/locks.gate,string,*argosy/locks.gate] -/
def an111 : Ann := { loops := [], seqs := [], blks := [], plans := [] }
def C111 (m_a0 : Value) (R : Value → A) : A :=
 bx 207 m_a0 fun m_1 =>
 mf (Fn.func 229) [] [m_1] fun v2 =>
 R v2
theorem e111 (m_a0 : Value) (R : Value → A) : C111 m_a0 R = W Tryz.prog an111 (bodyOf Tryz.f111) (topQ Tryz.prog Tryz.f111.results R) (ini [m_a0]) := by kernel_rfl
theorem c111 {m_a0 : Value} {R : Value → A} {h : Hp} (H : C111 m_a0 R h) : FnW Tryz.prog 111 #[m_a0] R h :=
  fn_sound mixed (an := an111) Tryz.func111 (c := bodyOf Tryz.f111) (by kernel_rfl) (by kernel_rfl) (by kernel_rfl) (by rw [← e111]; exact H)
theorem b111 : ∃ fn, Tryz.prog.funcs[111]? = some fn ∧ fn.body.isSome = true ∧ (fn.name == "runtime.NumGoroutine") = false := ⟨_, Tryz.func111, by kernel_rfl, by kernel_rfl⟩

/- (*argosy/locks.Locks).Keys$1 -/
def an112 : Ann := { loops := [], seqs := [], blks := [], plans := [(2, (.fl 0 (.fl 1 (.fl 2 (.fl 3 (.fl 4 (.fl 5 (.fl 6 (.fl 7 (.fl 8 (.fl 9 (.fl 10 (.fl 11 (.mu 12 [] (.nil))))))))))))), [[], [0], [0, 1], [0, 1, 2], [0, 1, 2, 3], [], [5], [5, 6], [5, 6, 7], [5, 6, 7, 8], [0, 1, 2, 3, 4, 5, 6, 7, 8, 9], [0, 1, 2, 3, 4, 5, 6, 7, 8, 9, 10], [0, 1, 2, 3, 4, 5, 6, 7, 8, 9, 10, 11]]))] }
def C112 (key_a0 a_a1 : Value) (R : Value → A) : A :=
 ld1 a_a1 fun v1 =>
 nc v1 fun v2 =>
 fa v2 0 fun v3 =>
 ld1 v3 fun v4 =>
 qt Tryz.prog (Instr.lookup 207 v4 key_a0 false) fun v5 =>
 nc v5 fun v6 =>
 fa v6 0 fun v7 =>
 ld1 v7 fun v8 =>
 lnS v8 fun v9 =>
 nc v5 fun v10 =>
 fa v10 1 fun v11 =>
 ld1 v11 fun v12 =>
 lnS v12 fun v13 =>
 bn .add v9 v13 fun v14 =>
 bn .eql v14 (Value.int IntKind.i64 0) fun v15 =>
 R v15
theorem e112 (key_a0 a_a1 : Value) (R : Value → A) : C112 key_a0 a_a1 R = W Tryz.prog an112 (bodyOf Tryz.f112) (topQ Tryz.prog Tryz.f112.results R) (ini [key_a0, a_a1]) := by kernel_rfl
theorem c112 {key_a0 a_a1 : Value} {R : Value → A} {h : Hp} (H : C112 key_a0 a_a1 R h) : FnW Tryz.prog 112 #[key_a0, a_a1] R h :=
  fn_sound mixed (an := an112) Tryz.func112 (c := bodyOf Tryz.f112) (by kernel_rfl) (by kernel_rfl) (by kernel_rfl) (by rw [← e112]; exact H)
theorem b112 : ∃ fn, Tryz.prog.funcs[112]? = some fn ∧ fn.body.isSome = true ∧ (fn.name == "runtime.NumGoroutine") = false := ⟨_, Tryz.func112, by kernel_rfl, by kernel_rfl⟩

/- argosy/locks.tags -/
def an113 : Ann := { loops := [(2, [2, 7], [(2, 2), (4, 4), (7, 16)])], seqs := [], blks := [], plans := [] }
def C113 (list_a0 : Value) (R : Value → A) : A :=
 lnS list_a0 fun v1 =>
 lp 2 (fun _ nx2 out_3 v4 =>
 bn .lss v4 v1 fun v5 =>
  cn v5
  (ixs 7 list_a0 v4 fun v6 =>
  ldn 7 v6 fun v7 =>
  al [Value.int IntKind.i64 0, Value.int IntKind.u64 0, Value.int IntKind.u64 0, Value.int IntKind.i64 0, Value.string { data := #[] }, Value.int IntKind.i64 0, Value.int IntKind.u64 0] 229 fun c_8 =>
  st 7 c_8 v7 <|
  fa c_8 0 fun v9 =>
  ldn 4 v9 fun v10 =>
  bsl [Value.int IntKind.i64 0, Value.int IntKind.u64 0, Value.int IntKind.u64 0, Value.int IntKind.i64 0] 27 1 [(0, 4, v10)] fun v11 =>
  apd [Value.int IntKind.i64 0, Value.int IntKind.u64 0, Value.int IntKind.u64 0, Value.int IntKind.i64 0] 32 27 out_3 v11 fun v12 =>
  bn .add v4 (Value.int IntKind.i64 1) fun v13 =>
  nx2 v12 v13)
  (R out_3)) [Value.slice none 0 0, Value.int IntKind.i64 0]
theorem e113 (list_a0 : Value) (R : Value → A) : C113 list_a0 R = W Tryz.prog an113 (bodyOf Tryz.f113) (topQ Tryz.prog Tryz.f113.results R) (ini [list_a0]) := by kernel_rfl
theorem c113 {list_a0 : Value} {R : Value → A} {h : Hp} (H : C113 list_a0 R h) : FnW Tryz.prog 113 #[list_a0] R h :=
  fn_sound mixed (an := an113) Tryz.func113 (c := bodyOf Tryz.f113) (by kernel_rfl) (by kernel_rfl) (by kernel_rfl) (by rw [← e113]; exact H)
theorem b113 : ∃ fn, Tryz.prog.funcs[113]? = some fn ∧ fn.body.isSome = true ∧ (fn.name == "runtime.NumGoroutine") = false := ⟨_, Tryz.func113, by kernel_rfl, by kernel_rfl⟩

/- slices.DeleteFunc[[]argosy/locks.claim,argosy/locks.claim] -/
def an114 : Ann := { loops := [(5, [5, 6], [(5, 7), (16, 35)])], seqs := [], blks := [(1, [5], [(5, 5), (7, 7), (22, 35)])], plans := [] }
def C114 (s_a0 del_a1 : Value) (R : Value → A) : A :=
 cl Tryz.prog 119 [s_a0, del_a1] fun v1 =>
 bn .eql v1 (Value.int IntKind.i64 (-1)) fun v2 =>
 cn v2
 (R s_a0)
 (bn .add v1 (Value.int IntKind.i64 1) fun v3 =>
 lp 2 (fun _ nx4 i_5 j_6 =>
 lnS s_a0 fun v7 =>
  bn .lss j_6 v7 fun v8 =>
  cn v8
  (jn 1 (fun k9 =>
  ixs 7 s_a0 j_6 fun v10 =>
   ldn 7 v10 fun v11 =>
   al [Value.int IntKind.i64 0, Value.int IntKind.u64 0, Value.int IntKind.u64 0, Value.int IntKind.i64 0, Value.string { data := #[] }, Value.int IntKind.i64 0, Value.int IntKind.u64 0] 229 fun v_12 =>
   st 7 v_12 v11 <|
   ldn 7 v_12 fun v13 =>
   CV Tryz.prog del_a1 [v13] fun v14 =>
   un .not v14 fun v15 =>
   cn v15
   (ldn 7 v_12 fun v16 =>
    ixs 7 s_a0 i_5 fun v17 =>
    st 7 v17 v16 <|
    bn .add i_5 (Value.int IntKind.i64 1) fun v18 =>
    k9 v18)
   (k9 i_5))
  (fun _ i_19 =>
  bn .add j_6 (Value.int IntKind.i64 1) fun v20 =>
  nx4 i_19 v20))
  (slc 7 (some i_5) none none s_a0 fun v21 =>
 ru Tryz.prog (Builtin.clear_ #[222] 0 #[v21]) fun v22 =>
 slc 7 none (some i_5) none s_a0 fun v23 =>
 R v23)) [v1, v3])
theorem e114 (s_a0 del_a1 : Value) (R : Value → A) : C114 s_a0 del_a1 R = W Tryz.prog an114 (bodyOf Tryz.f114) (topQ Tryz.prog Tryz.f114.results R) (ini [s_a0, del_a1]) := by kernel_rfl
theorem c114 {s_a0 del_a1 : Value} {R : Value → A} {h : Hp} (H : C114 s_a0 del_a1 R h) : FnW Tryz.prog 114 #[s_a0, del_a1] R h :=
  fn_sound mixed (an := an114) Tryz.func114 (c := bodyOf Tryz.f114) (by kernel_rfl) (by kernel_rfl) (by kernel_rfl) (by rw [← e114]; exact H)
theorem b114 : ∃ fn, Tryz.prog.funcs[114]? = some fn ∧ fn.body.isSome = true ∧ (fn.name == "runtime.NumGoroutine") = false := ⟨_, Tryz.func114, by kernel_rfl, by kernel_rfl⟩

/- argosy/locks.of -/
def an115 : Ann := { loops := [], seqs := [], blks := [], plans := [] }
def C115 (tag_a0 : Value) (R : Value → A) : A :=
 bx 27 tag_a0 fun tag_1 =>
 mf (Fn.func 230) [] [tag_1] fun v2 =>
 R v2
theorem e115 (tag_a0 : Value) (R : Value → A) : C115 tag_a0 R = W Tryz.prog an115 (bodyOf Tryz.f115) (topQ Tryz.prog Tryz.f115.results R) (ini [tag_a0]) := by kernel_rfl
theorem c115 {tag_a0 : Value} {R : Value → A} {h : Hp} (H : C115 tag_a0 R h) : FnW Tryz.prog 115 #[tag_a0] R h :=
  fn_sound mixed (an := an115) Tryz.func115 (c := bodyOf Tryz.f115) (by kernel_rfl) (by kernel_rfl) (by kernel_rfl) (by rw [← e115]; exact H)
theorem b115 : ∃ fn, Tryz.prog.funcs[115]? = some fn ∧ fn.body.isSome = true ∧ (fn.name == "runtime.NumGoroutine") = false := ⟨_, Tryz.func115, by kernel_rfl, by kernel_rfl⟩

/- slices.Index[[]argosy/api.Tag,argosy/api.Tag] -/
def an116 : Ann := { loops := [(2, [8], [(4, 5), (8, 18)])], seqs := [], blks := [], plans := [(4, (.fl 0 (.fl 1 (.fl 2 (.fl 3 (.fl 4 (.fl 5 (.nil)))))), [[], [], [], [1, 2], [1, 2, 3], [0, 1, 2, 3, 4]]))] }
def C116 (s_a0 v_a1 : Value) (R : Value → A) : A :=
 bx 27 v_a1 fun v_1 =>
 lnS s_a0 fun v2 =>
 lp 1 (fun _ nx3 v4 =>
 bn .lss v4 v2 fun v5 =>
  cn v5
  (ldn 4 v_1 fun v6 =>
  ixs 4 s_a0 v4 fun v7 =>
  ldn 4 v7 fun v8 =>
  be Tryz.prog 27 false v6 v8 fun v9 =>
  cn v9
  (R v4)
  (bn .add v4 (Value.int IntKind.i64 1) fun v10 =>
  nx3 v10))
  (R (Value.int IntKind.i64 (-1)))) [Value.int IntKind.i64 0]
theorem e116 (s_a0 v_a1 : Value) (R : Value → A) : C116 s_a0 v_a1 R = W Tryz.prog an116 (bodyOf Tryz.f116) (topQ Tryz.prog Tryz.f116.results R) (ini [s_a0, v_a1]) := by kernel_rfl
theorem c116 {s_a0 v_a1 : Value} {R : Value → A} {h : Hp} (H : C116 s_a0 v_a1 R h) : FnW Tryz.prog 116 #[s_a0, v_a1] R h :=
  fn_sound mixed (an := an116) Tryz.func116 (c := bodyOf Tryz.f116) (by kernel_rfl) (by kernel_rfl) (by kernel_rfl) (by rw [← e116]; exact H)
theorem b116 : ∃ fn, Tryz.prog.funcs[116]? = some fn ∧ fn.body.isSome = true ∧ (fn.name == "runtime.NumGoroutine") = false := ⟨_, Tryz.func116, by kernel_rfl, by kernel_rfl⟩

/- slices.Contains[[]argosy/api.Tag,argosy/api.Tag] -/
def an117 : Ann := { loops := [], seqs := [], blks := [], plans := [] }
def C117 (s_a0 v_a1 : Value) (R : Value → A) : A :=
 bx 27 v_a1 fun v_1 =>
 ldn 4 v_1 fun v2 =>
 cl Tryz.prog 116 [s_a0, v2] fun v3 =>
 bn .geq v3 (Value.int IntKind.i64 0) fun v4 =>
 R v4
theorem e117 (s_a0 v_a1 : Value) (R : Value → A) : C117 s_a0 v_a1 R = W Tryz.prog an117 (bodyOf Tryz.f117) (topQ Tryz.prog Tryz.f117.results R) (ini [s_a0, v_a1]) := by kernel_rfl
theorem c117 {s_a0 v_a1 : Value} {R : Value → A} {h : Hp} (H : C117 s_a0 v_a1 R h) : FnW Tryz.prog 117 #[s_a0, v_a1] R h :=
  fn_sound mixed (an := an117) Tryz.func117 (c := bodyOf Tryz.f117) (by kernel_rfl) (by kernel_rfl) (by kernel_rfl) (by rw [← e117]; exact H)
theorem b117 : ∃ fn, Tryz.prog.funcs[117]? = some fn ∧ fn.body.isSome = true ∧ (fn.name == "runtime.NumGoroutine") = false := ⟨_, Tryz.func117, by kernel_rfl, by kernel_rfl⟩

/- slices.ContainsFunc[[]argosy/locks.claim,argosy/locks.claim] -/
def an118 : Ann := { loops := [], seqs := [], blks := [], plans := [] }
def C118 (s_a0 f_a1 : Value) (R : Value → A) : A :=
 cl Tryz.prog 119 [s_a0, f_a1] fun v1 =>
 bn .geq v1 (Value.int IntKind.i64 0) fun v2 =>
 R v2
theorem e118 (s_a0 f_a1 : Value) (R : Value → A) : C118 s_a0 f_a1 R = W Tryz.prog an118 (bodyOf Tryz.f118) (topQ Tryz.prog Tryz.f118.results R) (ini [s_a0, f_a1]) := by kernel_rfl
theorem c118 {s_a0 f_a1 : Value} {R : Value → A} {h : Hp} (H : C118 s_a0 f_a1 R h) : FnW Tryz.prog 118 #[s_a0, f_a1] R h :=
  fn_sound mixed (an := an118) Tryz.func118 (c := bodyOf Tryz.f118) (by kernel_rfl) (by kernel_rfl) (by kernel_rfl) (by rw [← e118]; exact H)
theorem b118 : ∃ fn, Tryz.prog.funcs[118]? = some fn ∧ fn.body.isSome = true ∧ (fn.name == "runtime.NumGoroutine") = false := ⟨_, Tryz.func118, by kernel_rfl, by kernel_rfl⟩

/- slices.IndexFunc[[]argosy/locks.claim,argosy/locks.claim] -/
def an119 : Ann := { loops := [(2, [8], [(4, 5), (8, 18)])], seqs := [], blks := [], plans := [] }
def C119 (s_a0 f_a1 : Value) (R : Value → A) : A :=
 lnS s_a0 fun v1 =>
 lp 1 (fun _ nx2 v3 =>
 bn .lss v3 v1 fun v4 =>
  cn v4
  (ixs 7 s_a0 v3 fun v5 =>
  ldn 7 v5 fun v6 =>
  CV Tryz.prog f_a1 [v6] fun v7 =>
  cn v7
  (R v3)
  (bn .add v3 (Value.int IntKind.i64 1) fun v8 =>
  nx2 v8))
  (R (Value.int IntKind.i64 (-1)))) [Value.int IntKind.i64 0]
theorem e119 (s_a0 f_a1 : Value) (R : Value → A) : C119 s_a0 f_a1 R = W Tryz.prog an119 (bodyOf Tryz.f119) (topQ Tryz.prog Tryz.f119.results R) (ini [s_a0, f_a1]) := by kernel_rfl
theorem c119 {s_a0 f_a1 : Value} {R : Value → A} {h : Hp} (H : C119 s_a0 f_a1 R h) : FnW Tryz.prog 119 #[s_a0, f_a1] R h :=
  fn_sound mixed (an := an119) Tryz.func119 (c := bodyOf Tryz.f119) (by kernel_rfl) (by kernel_rfl) (by kernel_rfl) (by rw [← e119]; exact H)
theorem b119 : ∃ fn, Tryz.prog.funcs[119]? = some fn ∧ fn.body.isSome = true ∧ (fn.name == "runtime.NumGoroutine") = false := ⟨_, Tryz.func119, by kernel_rfl, by kernel_rfl⟩

/- bytes.Clone -/
def an127 : Ann := { loops := [], seqs := [], blks := [], plans := [] }
def C127 (b_a0 : Value) (R : Value → A) : A :=
 be Tryz.prog 82 false b_a0 (Value.slice none 0 0) fun v1 =>
 cn v1
 (R (Value.slice none 0 0))
 (bsl [Value.int IntKind.u8 0] 5 0 [] fun v2 =>
 apd [Value.int IntKind.u8 0] 1 5 v2 b_a0 fun v3 =>
 R v3)
theorem e127 (b_a0 : Value) (R : Value → A) : C127 b_a0 R = W Tryz.prog an127 (bodyOf Tryz.f127) (topQ Tryz.prog Tryz.f127.results R) (ini [b_a0]) := by kernel_rfl
theorem c127 {b_a0 : Value} {R : Value → A} {h : Hp} (H : C127 b_a0 R h) : FnW Tryz.prog 127 #[b_a0] R h :=
  fn_sound mixed (an := an127) Tryz.func127 (c := bodyOf Tryz.f127) (by kernel_rfl) (by kernel_rfl) (by kernel_rfl) (by rw [← e127]; exact H)
theorem b127 : ∃ fn, Tryz.prog.funcs[127]? = some fn ∧ fn.body.isSome = true ∧ (fn.name == "runtime.NumGoroutine") = false := ⟨_, Tryz.func127, by kernel_rfl, by kernel_rfl⟩

/- (*argosy/store.Store).Get -/
def an135 : Ann := { loops := [], seqs := [(4, [], [(16, 24)])], blks := [], plans := [] }
def C135 (s_a0 key_a1 : Value) (R : Value → A) : A :=
 al [Value.bool false, Value.slice none 0 0, Value.int IntKind.i64 0, Value.int IntKind.u64 0] 86 fun v1 =>
 nc s_a0 fun v2 =>
 fa v2 1 fun v3 =>
 ld1 v3 fun v4 =>
 cl Tryz.prog 241 [v4, key_a1] fun v5 =>
 ex 0 v5 fun v6 =>
 ex 1 v5 fun v7 =>
 al [Value.bool false, Value.slice none 0 0, Value.int IntKind.i64 0, Value.int IntKind.u64 0] 86 fun r_8 =>
 st 4 r_8 v6 <|
 jn 0 (fun k9 =>
 un .not v7 fun v10 =>
  cn v10
  (nc s_a0 fun v11 =>
   fa v11 0 fun v12 =>
   ld1 v12 fun v13 =>
   cl Tryz.prog 242 [key_a1, v13] fun v14 =>
   fa r_8 2 fun v15 =>
   st 1 v15 v14 <|
   k9)
  (k9))
 (fun _ =>
 fa r_8 1 fun v16 =>
  ld1 v16 fun v17 =>
  cl Tryz.prog 127 [v17] fun v18 =>
  fa r_8 1 fun v19 =>
  st 1 v19 v18 <|
  ldn 4 r_8 fun v20 =>
  st 4 v1 v20 <|
  ldn 4 v1 fun v21 => R v21)
theorem e135 (s_a0 key_a1 : Value) (R : Value → A) : C135 s_a0 key_a1 R = W Tryz.prog an135 (bodyOf Tryz.f135) (topQ Tryz.prog Tryz.f135.results R) (ini [s_a0, key_a1]) := by kernel_rfl
theorem c135 {s_a0 key_a1 : Value} {R : Value → A} {h : Hp} (H : C135 s_a0 key_a1 R h) : FnW Tryz.prog 135 #[s_a0, key_a1] R h :=
  fn_sound mixed (an := an135) Tryz.func135 (c := bodyOf Tryz.f135) (by kernel_rfl) (by kernel_rfl) (by kernel_rfl) (by rw [← e135]; exact H)
theorem b135 : ∃ fn, Tryz.prog.funcs[135]? = some fn ∧ fn.body.isSome = true ∧ (fn.name == "runtime.NumGoroutine") = false := ⟨_, Tryz.func135, by kernel_rfl, by kernel_rfl⟩

/- (*argosy/argosyref06.Store).Set -/
def an137 : Ann := { loops := [(3, [6, 7, 8], [(6, 8), (17, 64)])], seqs := [(8, [6, 7], [(6, 7), (26, 44)]), (12, [6], [(6, 6), (65, 71)])], blks := [(1, [6, 7], [(6, 7), (26, 64)])], plans := [(1, (.fl 1 (.fl 2 (.fl 3 (.fl 4 (.fl 5 (.fl 6 (.fl 7 (.mu 0 [2, 5] (.mu 8 [5] (.mu 9 [] (.nil)))))))))), [[], [], [1], [1, 2], [1, 2, 3], [1, 2, 3, 4], [1, 2, 3, 4, 5], [1, 2, 3, 4, 5, 6], [0, 1, 2, 3], [0, 1, 2, 3, 4, 5, 6, 7, 8]]))] }
def C137 (s_a0 key_a1 r_a2 : Value) (R : Value → A) : A :=
 bx 86 r_a2 fun r_1 =>
 fa r_1 0 fun v2 =>
 ld1 v2 fun v3 =>
 gd v3 false (fa r_1 3) fun v4 =>
 gd v3 false (ld1 v4) fun v5 =>
 gd v3 false (bn .gtr v5 (Value.int IntKind.u64 0)) fun v6 =>
 pk v3 (Value.bool true) v6 fun v7 =>
 bsl [Value.string { data := #[] }, Value.bool false, Value.slice none 0 0, Value.int IntKind.i64 0, Value.int IntKind.u64 0] 88 0 [] fun v8 =>
 an2 (ld1 v2 (fun u _ => u = v3)) <|
 an2 (gd v3 false (ld1 v4) (fun u _ => u = v5)) <|
 an2 (gd v3 false (ld1 v4) (fun u _ => u = v5)) <|
 lp 3 (fun _ nx9 out_10 keep_11 i_12 =>
 nc s_a0 fun v13 =>
  fa v13 1 fun v14 =>
  ld1 v14 fun v15 =>
  lnS v15 fun v16 =>
  bn .lss i_12 v16 fun v17 =>
  cn v17
  (jn 2 (fun k18 =>
  jn 2 (fun k19 =>
   gd keep_11 true (fun k => k s_a0) fun v20 =>
    gd keep_11 true (nc v20) fun v21 =>
    gd keep_11 true (fa v21 1) fun v22 =>
    gd keep_11 true (ld1 v22) fun v23 =>
    gd keep_11 true (fun k => k i_12) fun v24 =>
    gd keep_11 true (ixs 5 v23 v24) fun v25 =>
    gd keep_11 true (fa v25 0) fun v26 =>
    gd keep_11 true (ld1 v26) fun v27 =>
    gd keep_11 true (fun k => k key_a1) fun v28 =>
    gd keep_11 true (bn .gtr v27 v28) fun v29 =>
    pk keep_11 v29 (Value.bool false) fun v30 =>
    cn v30
    (ldn 4 r_1 fun v31 =>
     bd [Value.string { data := #[] }, Value.bool false, Value.slice none 0 0, Value.int IntKind.i64 0, Value.int IntKind.u64 0] [(0, 1, key_a1), (1, 4, v31)] fun v32 =>
     bsl [Value.string { data := #[] }, Value.bool false, Value.slice none 0 0, Value.int IntKind.i64 0, Value.int IntKind.u64 0] 88 1 [(0, 5, v32)] fun v33 =>
     apd [Value.string { data := #[] }, Value.bool false, Value.slice none 0 0, Value.int IntKind.i64 0, Value.int IntKind.u64 0] 64 88 out_10 v33 fun v34 =>
     k19 v34 (Value.bool false))
    (k19 out_10 keep_11))
   (fun _ out_35 keep_36 =>
   nc s_a0 fun v37 =>
    fa v37 1 fun v38 =>
    ld1 v38 fun v39 =>
    ixs 5 v39 i_12 fun v40 =>
    fa v40 0 fun v41 =>
    ld1 v41 fun v42 =>
    bn .neq v42 key_a1 fun v43 =>
    cn v43
    (nc s_a0 fun v44 =>
     fa v44 1 fun v45 =>
     ld1 v45 fun v46 =>
     ixs 5 v46 i_12 fun v47 =>
     ldn 5 v47 fun v48 =>
     bsl [Value.string { data := #[] }, Value.bool false, Value.slice none 0 0, Value.int IntKind.i64 0, Value.int IntKind.u64 0] 88 1 [(0, 5, v48)] fun v49 =>
     apd [Value.string { data := #[] }, Value.bool false, Value.slice none 0 0, Value.int IntKind.i64 0, Value.int IntKind.u64 0] 64 88 out_35 v49 fun v50 =>
     k18 v50 keep_36)
    (k18 out_35 keep_36)))
  (fun _ out_51 keep_52 =>
  bn .add i_12 (Value.int IntKind.i64 1) fun v53 =>
  nx9 out_51 keep_52 v53))
  (jn 1 (fun k54 =>
 cn keep_11
  (ldn 4 r_1 fun v55 =>
   bd [Value.string { data := #[] }, Value.bool false, Value.slice none 0 0, Value.int IntKind.i64 0, Value.int IntKind.u64 0] [(0, 1, key_a1), (1, 4, v55)] fun v56 =>
   bsl [Value.string { data := #[] }, Value.bool false, Value.slice none 0 0, Value.int IntKind.i64 0, Value.int IntKind.u64 0] 88 1 [(0, 5, v56)] fun v57 =>
   apd [Value.string { data := #[] }, Value.bool false, Value.slice none 0 0, Value.int IntKind.i64 0, Value.int IntKind.u64 0] 64 88 out_10 v57 fun v58 =>
   k54 v58)
  (k54 out_10))
 (fun _ out_59 =>
 nc s_a0 fun v60 =>
  fa v60 1 fun v61 =>
  st 1 v61 out_59 <|
  R (Value.tuple #[])))) [v8, v7, Value.int IntKind.i64 0]
theorem e137 (s_a0 key_a1 r_a2 : Value) (R : Value → A) : C137 s_a0 key_a1 r_a2 R = W Tryz.prog an137 (bodyOf Tryz.f137) (topQ Tryz.prog Tryz.f137.results R) (ini [s_a0, key_a1, r_a2]) := by kernel_rfl
theorem c137 {s_a0 key_a1 r_a2 : Value} {R : Value → A} {h : Hp} (H : C137 s_a0 key_a1 r_a2 R h) : FnW Tryz.prog 137 #[s_a0, key_a1, r_a2] R h :=
  fn_sound mixed (an := an137) Tryz.func137 (c := bodyOf Tryz.f137) (by kernel_rfl) (by kernel_rfl) (by kernel_rfl) (by rw [← e137]; exact H)
theorem b137 : ∃ fn, Tryz.prog.funcs[137]? = some fn ∧ fn.body.isSome = true ∧ (fn.name == "runtime.NumGoroutine") = false := ⟨_, Tryz.func137, by kernel_rfl, by kernel_rfl⟩

/- argosy/argosyref06.Default -/
def an182 : Ann := { loops := [(5, [5, 6], [(5, 6), (9, 20)])], seqs := [], blks := [], plans := [] }
def C182 (key_a0 regions_a1 : Value) (R : Value → A) : A :=
 bn .lss regions_a1 (Value.int IntKind.i64 1) fun v1 =>
 cn v1
 (R (Value.int IntKind.i64 0))
 (lp 2 (fun _ nx2 sum_3 i_4 =>
 lnT key_a0 fun v5 =>
  bn .lss i_4 v5 fun v6 =>
  cn v6
  (pp Tryz.prog (Instr.index 9 key_a0 i_4) fun v7 =>
  cvi .u64 v7 fun v8 =>
  bn .add sum_3 v8 fun v9 =>
  bn .add i_4 (Value.int IntKind.i64 1) fun v10 =>
  nx2 v9 v10)
  (cvi .u64 regions_a1 fun v11 =>
 bn .rem sum_3 v11 fun v12 =>
 cvi .i64 v12 fun v13 =>
 R v13)) [Value.int IntKind.u64 0, Value.int IntKind.i64 0])
theorem e182 (key_a0 regions_a1 : Value) (R : Value → A) : C182 key_a0 regions_a1 R = W Tryz.prog an182 (bodyOf Tryz.f182) (topQ Tryz.prog Tryz.f182.results R) (ini [key_a0, regions_a1]) := by kernel_rfl
theorem c182 {key_a0 regions_a1 : Value} {R : Value → A} {h : Hp} (H : C182 key_a0 regions_a1 R h) : FnW Tryz.prog 182 #[key_a0, regions_a1] R h :=
  fn_sound mixed (an := an182) Tryz.func182 (c := bodyOf Tryz.f182) (by kernel_rfl) (by kernel_rfl) (by kernel_rfl) (by rw [← e182]; exact H)
theorem b182 : ∃ fn, Tryz.prog.funcs[182]? = some fn ∧ fn.body.isSome = true ∧ (fn.name == "runtime.NumGoroutine") = false := ⟨_, Tryz.func182, by kernel_rfl, by kernel_rfl⟩

/- (*argosy/locks.Locks).gate -/
def an218 : Ann := { loops := [], seqs := [(3, [], [(5, 18)])], blks := [], plans := [] }
def C218 (l_a0 key_a1 : Value) (R : Value → A) : A :=
 jn 0 (fun k1 =>
 nc l_a0 fun v2 =>
  fa v2 0 fun v3 =>
  ld1 v3 fun v4 =>
  qt Tryz.prog (Instr.lookup 207 v4 key_a1 false) fun v5 =>
  be Tryz.prog 221 false v5 (Value.pointer none) fun v6 =>
  cn v6
  (nc l_a0 fun v7 =>
   fa v7 0 fun v8 =>
   ld1 v8 fun v9 =>
   bd [Value.slice none 0 0, Value.slice none 0 0] [] fun v10 =>
   bx 224 v10 fun v11 =>
   ru Tryz.prog (Instr.mapUpdate 207 v9 key_a1 v11) fun _ =>
   k1)
  (k1))
 (fun _ =>
 nc l_a0 fun v12 =>
  fa v12 0 fun v13 =>
  ld1 v13 fun v14 =>
  qt Tryz.prog (Instr.lookup 207 v14 key_a1 false) fun v15 =>
  R v15)
theorem e218 (l_a0 key_a1 : Value) (R : Value → A) : C218 l_a0 key_a1 R = W Tryz.prog an218 (bodyOf Tryz.f218) (topQ Tryz.prog Tryz.f218.results R) (ini [l_a0, key_a1]) := by kernel_rfl
theorem c218 {l_a0 key_a1 : Value} {R : Value → A} {h : Hp} (H : C218 l_a0 key_a1 R h) : FnW Tryz.prog 218 #[l_a0, key_a1] R h :=
  fn_sound mixed (an := an218) Tryz.func218 (c := bodyOf Tryz.f218) (by kernel_rfl) (by kernel_rfl) (by kernel_rfl) (by rw [← e218]; exact H)
theorem b218 : ∃ fn, Tryz.prog.funcs[218]? = some fn ∧ fn.body.isSome = true ∧ (fn.name == "runtime.NumGoroutine") = false := ⟨_, Tryz.func218, by kernel_rfl, by kernel_rfl⟩

/- argosy/route.Look -/
def an219 : Ann := { loops := [], seqs := [], blks := [], plans := [] }
def C219 (r_a0 m_a1 : Value) (R : Value → A) : A :=
 bx 86 r_a0 fun r_1 =>
 bx 164 m_a1 fun m_2 =>
 fa m_2 2 fun v3 =>
 ld1 v3 fun v4 =>
 fa r_1 3 fun v5 =>
 ld1 v5 fun v6 =>
 bn .gtr v4 v6 fun v7 =>
 cn v7
 (R (Value.int IntKind.i64 1))
 (fa m_2 2 fun v8 =>
  ld1 v8 fun v9 =>
  fa r_1 3 fun v10 =>
  ld1 v10 fun v11 =>
  bn .eql v9 v11 fun v12 =>
  gd v12 true (fa m_2 1) fun v13 =>
  gd v12 true (ld1 v13) fun v14 =>
  gd v12 true (fa r_1 2) fun v15 =>
  gd v12 true (ld1 v15) fun v16 =>
  gd v12 true (bn .eql v14 v16) fun v17 =>
  pk v12 v17 (Value.bool false) fun v18 =>
  cn v18
  (R (Value.int IntKind.i64 0))
  (R (Value.int IntKind.i64 2)))
theorem e219 (r_a0 m_a1 : Value) (R : Value → A) : C219 r_a0 m_a1 R = W Tryz.prog an219 (bodyOf Tryz.f219) (topQ Tryz.prog Tryz.f219.results R) (ini [r_a0, m_a1]) := by kernel_rfl
theorem c219 {r_a0 m_a1 : Value} {R : Value → A} {h : Hp} (H : C219 r_a0 m_a1 R h) : FnW Tryz.prog 219 #[r_a0, m_a1] R h :=
  fn_sound mixed (an := an219) Tryz.func219 (c := bodyOf Tryz.f219) (by kernel_rfl) (by kernel_rfl) (by kernel_rfl) (by rw [← e219]; exact H)
theorem b219 : ∃ fn, Tryz.prog.funcs[219]? = some fn ∧ fn.body.isSome = true ∧ (fn.name == "runtime.NumGoroutine") = false := ⟨_, Tryz.func219, by kernel_rfl, by kernel_rfl⟩

/- argosy/argosyref16.without -/
def an220 : Ann := { loops := [(3, [5, 6], [(5, 6), (8, 27)])], seqs := [], blks := [(1, [5], [(5, 5), (14, 27)])], plans := [(5, (.fl 0 (.fl 1 (.fl 2 (.fl 3 (.fl 4 (.fl 5 (.fl 6 (.nil))))))), [[], [], [0, 1], [0, 1, 2], [0, 1, 2, 3], [], [0, 1, 2, 3, 4, 5]]))] }
def C220 (list_a0 tag_a1 : Value) (R : Value → A) : A :=
 bx 27 tag_a1 fun tag_1 =>
 bsl [Value.int IntKind.i64 0, Value.int IntKind.u64 0, Value.int IntKind.u64 0, Value.int IntKind.i64 0, Value.string { data := #[] }, Value.int IntKind.i64 0, Value.int IntKind.u64 0] 408 0 [] fun v2 =>
 lp 2 (fun _ nx3 out_4 i_5 =>
 lnS list_a0 fun v6 =>
  bn .lss i_5 v6 fun v7 =>
  cn v7
  (jn 1 (fun k8 =>
  ixs 7 list_a0 i_5 fun v9 =>
   fa v9 0 fun v10 =>
   ldn 4 v10 fun v11 =>
   ldn 4 tag_1 fun v12 =>
   be Tryz.prog 27 true v11 v12 fun v13 =>
   cn v13
   (ixs 7 list_a0 i_5 fun v14 =>
    ldn 7 v14 fun v15 =>
    bsl [Value.int IntKind.i64 0, Value.int IntKind.u64 0, Value.int IntKind.u64 0, Value.int IntKind.i64 0, Value.string { data := #[] }, Value.int IntKind.i64 0, Value.int IntKind.u64 0] 408 1 [(0, 7, v15)] fun v16 =>
    apd [Value.int IntKind.i64 0, Value.int IntKind.u64 0, Value.int IntKind.u64 0, Value.int IntKind.i64 0, Value.string { data := #[] }, Value.int IntKind.i64 0, Value.int IntKind.u64 0] 64 408 out_4 v16 fun v17 =>
    k8 v17)
   (k8 out_4))
  (fun _ out_18 =>
  bn .add i_5 (Value.int IntKind.i64 1) fun v19 =>
  nx3 out_18 v19))
  (R out_4)) [v2, Value.int IntKind.i64 0]
theorem e220 (list_a0 tag_a1 : Value) (R : Value → A) : C220 list_a0 tag_a1 R = W Tryz.prog an220 (bodyOf Tryz.f220) (topQ Tryz.prog Tryz.f220.results R) (ini [list_a0, tag_a1]) := by kernel_rfl
theorem c220 {list_a0 tag_a1 : Value} {R : Value → A} {h : Hp} (H : C220 list_a0 tag_a1 R h) : FnW Tryz.prog 220 #[list_a0, tag_a1] R h :=
  fn_sound mixed (an := an220) Tryz.func220 (c := bodyOf Tryz.f220) (by kernel_rfl) (by kernel_rfl) (by kernel_rfl) (by rw [← e220]; exact H)
theorem b220 : ∃ fn, Tryz.prog.funcs[220]? = some fn ∧ fn.body.isSome = true ∧ (fn.name == "runtime.NumGoroutine") = false := ⟨_, Tryz.func220, by kernel_rfl, by kernel_rfl⟩

/- (*argosy/store.Store).set -/
def an221 : Ann := { loops := [], seqs := [], blks := [], plans := [(3, (.fl 0 (.fl 1 (.fl 2 (.fl 3 (.fl 4 (.fl 5 (.mu 6 [] (.nil))))))), [[], [0], [0, 1], [0, 1, 2], [], [], [0, 1, 2, 3, 4, 5]]))] }
def C221 (s_a0 key_a1 r_a2 : Value) (R : Value → A) : A :=
 bx 86 r_a2 fun r_1 =>
 fa r_1 0 fun v2 =>
 ld1 v2 fun v3 =>
 un .not v3 fun v4 =>
 gd v4 true (fa r_1 3) fun v5 =>
 gd v4 true (ld1 v5) fun v6 =>
 gd v4 true (bn .eql v6 (Value.int IntKind.u64 0)) fun v7 =>
 pk v4 v7 (Value.bool false) fun v8 =>
 cn v8
 (nc s_a0 fun v9 =>
  fa v9 1 fun v10 =>
  ld1 v10 fun v11 =>
  cl Tryz.prog 320 [v11, key_a1] fun v12 =>
  R (Value.tuple #[]))
 (nc s_a0 fun v13 =>
 fa v13 1 fun v14 =>
 ld1 v14 fun v15 =>
 ldn 4 r_1 fun v16 =>
 cl Tryz.prog 321 [v15, key_a1, v16] fun v17 =>
 R (Value.tuple #[]))
theorem e221 (s_a0 key_a1 r_a2 : Value) (R : Value → A) : C221 s_a0 key_a1 r_a2 R = W Tryz.prog an221 (bodyOf Tryz.f221) (topQ Tryz.prog Tryz.f221.results R) (ini [s_a0, key_a1, r_a2]) := by kernel_rfl
theorem c221 {s_a0 key_a1 r_a2 : Value} {R : Value → A} {h : Hp} (H : C221 s_a0 key_a1 r_a2 R h) : FnW Tryz.prog 221 #[s_a0, key_a1, r_a2] R h :=
  fn_sound mixed (an := an221) Tryz.func221 (c := bodyOf Tryz.f221) (by kernel_rfl) (by kernel_rfl) (by kernel_rfl) (by rw [← e221]; exact H)
theorem b221 : ∃ fn, Tryz.prog.funcs[221]? = some fn ∧ fn.body.isSome = true ∧ (fn.name == "runtime.NumGoroutine") = false := ⟨_, Tryz.func221, by kernel_rfl, by kernel_rfl⟩

/- (*argosy/locks.Locks).Moved$1 -/
def an222 : Ann := { loops := [], seqs := [], blks := [(0, [], [(12, 31)])], plans := [(4, (.fl 0 (.fl 1 (.fl 2 (.fl 3 (.fl 4 (.fl 5 (.mu 6 [0, 1, 4] (.mu 7 [0] (.fl 8 (.fl 9 (.mu 10 [] (.nil))))))))))), [[], [], [1], [1, 2], [1, 2, 3], [], [5], [1, 2, 3, 4, 5, 6], [0, 1, 2, 3, 4, 5, 6, 7], [0, 1, 2, 3, 4, 5, 6, 7, 8], [0, 1, 2, 3, 4, 5, 6, 7, 8, 9]])), (6, (.fl 0 (.fl 1 (.fl 2 (.fl 3 (.fl 4 (.fl 5 (.mu 6 [] (.nil))))))), [[], [0], [0, 1], [0, 1, 2], [], [4], [0, 1, 2, 3, 4, 5]]))] }
def C222 (c_a0 a_a1 a_a2 a_a3 : Value) (R : Value → A) : A :=
 bx 229 c_a0 fun c_1 =>
 ldn 4 a_a1 fun v2 =>
 fa c_1 4 fun v3 =>
 ldn 3 v3 fun v4 =>
 cl Tryz.prog 219 [v2, v4] fun v5 =>
 jn 0 (fun k6 =>
 bn .eql v5 (Value.int IntKind.i64 0) fun v7 =>
  cn v7
  (ld1 a_a2 fun v8 =>
   ld1 a_a2 fun v9 =>
   nc v9 fun v10 =>
   fa v10 0 fun v11 =>
   ld1 v11 fun v12 =>
   ldn 7 c_1 fun v13 =>
   bsl [Value.int IntKind.i64 0, Value.int IntKind.u64 0, Value.int IntKind.u64 0, Value.int IntKind.i64 0, Value.string { data := #[] }, Value.int IntKind.i64 0, Value.int IntKind.u64 0] 229 1 [(0, 7, v13)] fun v14 =>
   an2 (ld1 a_a2 (fun u _ => u = v8)) <|
   an2 (ld1 a_a2 (fun u _ => u = v9)) <|
   an2 (ld1 v11 (fun u _ => u = v12)) <|
   apd [Value.int IntKind.i64 0, Value.int IntKind.u64 0, Value.int IntKind.u64 0, Value.int IntKind.i64 0, Value.string { data := #[] }, Value.int IntKind.i64 0, Value.int IntKind.u64 0] 64 229 v12 v14 fun v15 =>
   an2 (ld1 a_a2 (fun u _ => u = v8)) <|
   nc v8 fun v16 =>
   fa v16 0 fun v17 =>
   st 1 v17 v15 <|
   k6)
  (bn .eql v5 (Value.int IntKind.i64 2) fun v18 =>
   cn v18
   (ld1 a_a3 fun v19 =>
    nc v19 fun v20 =>
    fa v20 1 fun v21 =>
    ld1 v21 fun v22 =>
    fa c_1 0 fun v23 =>
    ldn 4 v23 fun v24 =>
    ru Tryz.prog (Instr.mapUpdate 208 v22 v24 (Value.int IntKind.i64 1)) fun _ =>
    k6)
   (k6)))
 (fun _ =>
 bn .neq v5 (Value.int IntKind.i64 1) fun v25 =>
 R v25)
theorem e222 (c_a0 a_a1 a_a2 a_a3 : Value) (R : Value → A) : C222 c_a0 a_a1 a_a2 a_a3 R = W Tryz.prog an222 (bodyOf Tryz.f222) (topQ Tryz.prog Tryz.f222.results R) (ini [c_a0, a_a1, a_a2, a_a3]) := by kernel_rfl
theorem c222 {c_a0 a_a1 a_a2 a_a3 : Value} {R : Value → A} {h : Hp} (H : C222 c_a0 a_a1 a_a2 a_a3 R h) : FnW Tryz.prog 222 #[c_a0, a_a1, a_a2, a_a3] R h :=
  fn_sound mixed (an := an222) Tryz.func222 (c := bodyOf Tryz.f222) (by kernel_rfl) (by kernel_rfl) (by kernel_rfl) (by rw [← e222]; exact H)
theorem b222 : ∃ fn, Tryz.prog.funcs[222]? = some fn ∧ fn.body.isSome = true ∧ (fn.name == "runtime.NumGoroutine") = false := ⟨_, Tryz.func222, by kernel_rfl, by kernel_rfl⟩

/- argosy/argosyref10.Look -/
def an223 : Ann := { loops := [], seqs := [], blks := [], plans := [] }
def C223 (r_a0 m_a1 : Value) (R : Value → A) : A :=
 bx 86 r_a0 fun r_1 =>
 bx 164 m_a1 fun m_2 =>
 fa m_2 2 fun v3 =>
 ld1 v3 fun v4 =>
 fa r_1 3 fun v5 =>
 ld1 v5 fun v6 =>
 bn .gtr v4 v6 fun v7 =>
 cn v7
 (R (Value.int IntKind.i64 1))
 (fa m_2 2 fun v8 =>
 ld1 v8 fun v9 =>
 fa r_1 3 fun v10 =>
 ld1 v10 fun v11 =>
 bn .lss v9 v11 fun v12 =>
 gd v12 false (fa m_2 1) fun v13 =>
 gd v12 false (ld1 v13) fun v14 =>
 gd v12 false (fa r_1 2) fun v15 =>
 gd v12 false (ld1 v15) fun v16 =>
 gd v12 false (bn .neq v14 v16) fun v17 =>
 pk v12 (Value.bool true) v17 fun v18 =>
 cn v18
 (R (Value.int IntKind.i64 2))
 (R (Value.int IntKind.i64 0)))
theorem e223 (r_a0 m_a1 : Value) (R : Value → A) : C223 r_a0 m_a1 R = W Tryz.prog an223 (bodyOf Tryz.f223) (topQ Tryz.prog Tryz.f223.results R) (ini [r_a0, m_a1]) := by kernel_rfl
theorem c223 {r_a0 m_a1 : Value} {R : Value → A} {h : Hp} (H : C223 r_a0 m_a1 R h) : FnW Tryz.prog 223 #[r_a0, m_a1] R h :=
  fn_sound mixed (an := an223) Tryz.func223 (c := bodyOf Tryz.f223) (by kernel_rfl) (by kernel_rfl) (by kernel_rfl) (by rw [← e223]; exact H)
theorem b223 : ∃ fn, Tryz.prog.funcs[223]? = some fn ∧ fn.body.isSome = true ∧ (fn.name == "runtime.NumGoroutine") = false := ⟨_, Tryz.func223, by kernel_rfl, by kernel_rfl⟩

/- (*argosy/argosyref16.Locks).doom -/
def an224 : Ann := { loops := [], seqs := [], blks := [], plans := [(1, (.fl 0 (.fl 1 (.fl 2 (.fl 3 (.fl 4 (.mu 5 [] (.fl 6 (.nil))))))), [[], [0], [0, 1], [0, 1, 2], [], [0, 1, 2, 3, 4], [0, 1, 2, 3, 4, 5]])), (2, (.fl 0 (.fl 2 (.fl 3 (.fl 4 (.fl 5 (.fl 7 (.alt (.mu 1 [5, 7] (.alt (.mu 6 [7] (.mu 8 [5] (.mu 9 [] (.fl 10 (.fl 11 (.mu 12 [] (.nil))))))) (.mu 8 [5] (.mu 6 [7] (.mu 9 [] (.fl 10 (.fl 11 (.mu 12 [] (.nil))))))))) (.mu 8 [5] (.mu 1 [5, 7] (.mu 6 [7] (.mu 9 [] (.fl 10 (.fl 11 (.mu 12 [] (.nil)))))))))))))), [[], [], [], [2], [2, 3], [2, 3, 4], [1, 2, 3, 4, 5], [], [7], [1, 2, 3, 4, 5, 6, 7, 8], [0, 1, 2, 3, 4, 5, 6, 7, 8, 9], [0, 1, 2, 3, 4, 5, 6, 7, 8, 9, 10], [0, 1, 2, 3, 4, 5, 6, 7, 8, 9, 10, 11]]))] }
def C224 (l_a0 tag_a1 : Value) (R : Value → A) : A :=
 bx 27 tag_a1 fun tag_1 =>
 nc l_a0 fun v2 =>
 fa v2 2 fun v3 =>
 ld1 v3 fun v4 =>
 ldn 4 tag_1 fun v5 =>
 cl Tryz.prog 30 [v4, v5] fun v6 =>
 un .not v6 fun v7 =>
 cn v7
 (nc l_a0 fun v8 =>
  fa v8 2 fun v9 =>
  ld1 v9 fun v10 =>
  ldn 4 tag_1 fun v11 =>
  an2 (bsl [Value.int IntKind.i64 0, Value.int IntKind.u64 0, Value.int IntKind.u64 0, Value.int IntKind.i64 0] 27 0 [] fun v12 =>
  an2 (ld1 v9 (fun u _ => u = v10)) <|
  an2 (ldn 4 tag_1 (fun u _ => u = v11)) <|
  an2 (apd [Value.int IntKind.i64 0, Value.int IntKind.u64 0, Value.int IntKind.u64 0, Value.int IntKind.i64 0] 32 27 v12 v10 fun v13 =>
  an2 (ldn 4 tag_1 (fun u _ => u = v11)) <|
  bsl [Value.int IntKind.i64 0, Value.int IntKind.u64 0, Value.int IntKind.u64 0, Value.int IntKind.i64 0] 27 1 [(0, 4, v11)] fun v14 =>
  an2 (ld1 v9 (fun u _ => u = v10)) <|
  apd [Value.int IntKind.i64 0, Value.int IntKind.u64 0, Value.int IntKind.u64 0, Value.int IntKind.i64 0] 32 27 v13 v14 fun v15 =>
  nc l_a0 fun v16 =>
  fa v16 2 fun v17 =>
  st 1 v17 v15 <|
  R (Value.tuple #[])) (bsl [Value.int IntKind.i64 0, Value.int IntKind.u64 0, Value.int IntKind.u64 0, Value.int IntKind.i64 0] 27 1 [(0, 4, v11)] fun v18 =>
  an2 (ld1 v9 (fun u _ => u = v10)) <|
  apd [Value.int IntKind.i64 0, Value.int IntKind.u64 0, Value.int IntKind.u64 0, Value.int IntKind.i64 0] 32 27 v12 v10 fun v19 =>
  an2 (ldn 4 tag_1 (fun u _ => u = v11)) <|
  apd [Value.int IntKind.i64 0, Value.int IntKind.u64 0, Value.int IntKind.u64 0, Value.int IntKind.i64 0] 32 27 v19 v18 fun v20 =>
  nc l_a0 fun v21 =>
  fa v21 2 fun v22 =>
  st 1 v22 v20 <|
  R (Value.tuple #[]))) (bsl [Value.int IntKind.i64 0, Value.int IntKind.u64 0, Value.int IntKind.u64 0, Value.int IntKind.i64 0] 27 1 [(0, 4, v11)] fun v23 =>
  an2 (ld1 v9 (fun u _ => u = v10)) <|
  bsl [Value.int IntKind.i64 0, Value.int IntKind.u64 0, Value.int IntKind.u64 0, Value.int IntKind.i64 0] 27 0 [] fun v24 =>
  an2 (ld1 v9 (fun u _ => u = v10)) <|
  an2 (ldn 4 tag_1 (fun u _ => u = v11)) <|
  apd [Value.int IntKind.i64 0, Value.int IntKind.u64 0, Value.int IntKind.u64 0, Value.int IntKind.i64 0] 32 27 v24 v10 fun v25 =>
  an2 (ldn 4 tag_1 (fun u _ => u = v11)) <|
  apd [Value.int IntKind.i64 0, Value.int IntKind.u64 0, Value.int IntKind.u64 0, Value.int IntKind.i64 0] 32 27 v25 v23 fun v26 =>
  nc l_a0 fun v27 =>
  fa v27 2 fun v28 =>
  st 1 v28 v26 <|
  R (Value.tuple #[])))
 (R (Value.tuple #[]))
theorem e224 (l_a0 tag_a1 : Value) (R : Value → A) : C224 l_a0 tag_a1 R = W Tryz.prog an224 (bodyOf Tryz.f224) (topQ Tryz.prog Tryz.f224.results R) (ini [l_a0, tag_a1]) := by kernel_rfl
theorem c224 {l_a0 tag_a1 : Value} {R : Value → A} {h : Hp} (H : C224 l_a0 tag_a1 R h) : FnW Tryz.prog 224 #[l_a0, tag_a1] R h :=
  fn_sound mixed (an := an224) Tryz.func224 (c := bodyOf Tryz.f224) (by kernel_rfl) (by kernel_rfl) (by kernel_rfl) (by rw [← e224]; exact H)
theorem b224 : ∃ fn, Tryz.prog.funcs[224]? = some fn ∧ fn.body.isSome = true ∧ (fn.name == "runtime.NumGoroutine") = false := ⟨_, Tryz.func224, by kernel_rfl, by kernel_rfl⟩

/- argosy/argosyref16.has -/
def an225 : Ann := { loops := [(2, [7], [(6, 30)])], seqs := [], blks := [], plans := [(4, (.fl 0 (.fl 1 (.fl 2 (.fl 3 (.fl 4 (.fl 5 (.fl 6 (.fl 7 (.fl 8 (.fl 9 (.fl 10 (.fl 11 (.fl 12 (.fl 13 (.fl 14 (.fl 15 (.fl 16 (.nil))))))))))))))))), [[], [], [0, 1], [0, 1, 2], [0, 1, 2, 3], [0, 1, 2, 3, 4], [], [0, 1, 2, 3, 4, 5, 6], [0, 1, 2, 3, 4, 5, 6, 7], [0, 1, 2, 3, 4, 5, 6, 7, 8], [0, 1, 2, 3, 4, 5, 6, 7, 8], [0, 1, 2, 3, 4, 5, 6, 7, 8, 9, 10], [0, 1, 2, 3, 4, 5, 6, 7, 8, 9, 10, 11], [0, 1, 2, 3, 4, 5, 6, 7, 8, 9, 10, 11, 12], [0, 1, 2, 3, 4, 5, 6, 7, 8], [0, 1, 2, 3, 4, 5, 6, 7, 8, 9, 10, 11, 12, 13, 14], [0, 1, 2, 3, 4, 5, 6, 7, 8, 9, 10, 11, 12, 13, 14, 15]]))] }
def C225 (list_a0 key_a1 tag_a2 : Value) (R : Value → A) : A :=
 bx 27 tag_a2 fun tag_1 =>
 lp 1 (fun _ nx2 i_3 =>
 lnS list_a0 fun v4 =>
  bn .lss i_3 v4 fun v5 =>
  cn v5
  (ixs 7 list_a0 i_3 fun v6 =>
  fa v6 4 fun v7 =>
  fa v7 0 fun v8 =>
  ld1 v8 fun v9 =>
  bn .eql v9 key_a1 fun v10 =>
  gd v10 true (fun k => k list_a0) fun v11 =>
  gd v10 true (fun k => k i_3) fun v12 =>
  gd v10 true (ixs 7 v11 v12) fun v13 =>
  gd v10 true (fa v13 0) fun v14 =>
  gd v10 true (ldn 4 v14) fun v15 =>
  gd v10 true (ldn 4 tag_1) fun v16 =>
  gd v10 true (be Tryz.prog 27 false v15 v16) fun v17 =>
  pk v10 v17 (Value.bool false) fun v18 =>
  cn v18
  (R (Value.bool true))
  (bn .add i_3 (Value.int IntKind.i64 1) fun v19 =>
  nx2 v19))
  (R (Value.bool false))) [Value.int IntKind.i64 0]
theorem e225 (list_a0 key_a1 tag_a2 : Value) (R : Value → A) : C225 list_a0 key_a1 tag_a2 R = W Tryz.prog an225 (bodyOf Tryz.f225) (topQ Tryz.prog Tryz.f225.results R) (ini [list_a0, key_a1, tag_a2]) := by kernel_rfl
theorem c225 {list_a0 key_a1 tag_a2 : Value} {R : Value → A} {h : Hp} (H : C225 list_a0 key_a1 tag_a2 R h) : FnW Tryz.prog 225 #[list_a0, key_a1, tag_a2] R h :=
  fn_sound mixed (an := an225) Tryz.func225 (c := bodyOf Tryz.f225) (by kernel_rfl) (by kernel_rfl) (by kernel_rfl) (by rw [← e225]; exact H)
theorem b225 : ∃ fn, Tryz.prog.funcs[225]? = some fn ∧ fn.body.isSome = true ∧ (fn.name == "runtime.NumGoroutine") = false := ⟨_, Tryz.func225, by kernel_rfl, by kernel_rfl⟩

/- slices.IndexFunc[[]string,string] -/
def an226 : Ann := { loops := [(2, [8], [(4, 5), (8, 18)])], seqs := [], blks := [], plans := [] }
def C226 (s_a0 f_a1 : Value) (R : Value → A) : A :=
 lnS s_a0 fun v1 =>
 lp 1 (fun _ nx2 v3 =>
 bn .lss v3 v1 fun v4 =>
  cn v4
  (ixs 1 s_a0 v3 fun v5 =>
  ld1 v5 fun v6 =>
  CV Tryz.prog f_a1 [v6] fun v7 =>
  cn v7
  (R v3)
  (bn .add v3 (Value.int IntKind.i64 1) fun v8 =>
  nx2 v8))
  (R (Value.int IntKind.i64 (-1)))) [Value.int IntKind.i64 0]
theorem e226 (s_a0 f_a1 : Value) (R : Value → A) : C226 s_a0 f_a1 R = W Tryz.prog an226 (bodyOf Tryz.f226) (topQ Tryz.prog Tryz.f226.results R) (ini [s_a0, f_a1]) := by kernel_rfl
theorem c226 {s_a0 f_a1 : Value} {R : Value → A} {h : Hp} (H : C226 s_a0 f_a1 R h) : FnW Tryz.prog 226 #[s_a0, f_a1] R h :=
  fn_sound mixed (an := an226) Tryz.func226 (c := bodyOf Tryz.f226) (by kernel_rfl) (by kernel_rfl) (by kernel_rfl) (by rw [← e226]; exact H)
theorem b226 : ∃ fn, Tryz.prog.funcs[226]? = some fn ∧ fn.body.isSome = true ∧ (fn.name == "runtime.NumGoroutine") = false := ⟨_, Tryz.func226, by kernel_rfl, by kernel_rfl⟩

/- slices.Collect[string] -/
def an227 : Ann := { loops := [], seqs := [], blks := [], plans := [] }
def C227 (seq_a0 : Value) (R : Value → A) : A :=
 cl Tryz.prog 322 [Value.slice none 0 0, seq_a0] fun v1 =>
 R v1
theorem e227 (seq_a0 : Value) (R : Value → A) : C227 seq_a0 R = W Tryz.prog an227 (bodyOf Tryz.f227) (topQ Tryz.prog Tryz.f227.results R) (ini [seq_a0]) := by kernel_rfl
theorem c227 {seq_a0 : Value} {R : Value → A} {h : Hp} (H : C227 seq_a0 R h) : FnW Tryz.prog 227 #[seq_a0] R h :=
  fn_sound mixed (an := an227) Tryz.func227 (c := bodyOf Tryz.f227) (by kernel_rfl) (by kernel_rfl) (by kernel_rfl) (by rw [← e227]; exact H)
theorem b227 : ∃ fn, Tryz.prog.funcs[227]? = some fn ∧ fn.body.isSome = true ∧ (fn.name == "runtime.NumGoroutine") = false := ⟨_, Tryz.func227, by kernel_rfl, by kernel_rfl⟩

/- slices.Sort[[]string,string] -/
def an228 : Ann := { loops := [], seqs := [], blks := [], plans := [] }
def C228 (x_a0 : Value) (R : Value → A) : A :=
 lnS x_a0 fun v1 =>
 cvi .u64 v1 fun v2 =>
 cl Tryz.prog 282 [v2] fun v3 =>
 cl Tryz.prog 323 [x_a0, Value.int IntKind.i64 0, v1, v3] fun v4 =>
 R (Value.tuple #[])
theorem e228 (x_a0 : Value) (R : Value → A) : C228 x_a0 R = W Tryz.prog an228 (bodyOf Tryz.f228) (topQ Tryz.prog Tryz.f228.results R) (ini [x_a0]) := by kernel_rfl
theorem c228 {x_a0 : Value} {R : Value → A} {h : Hp} (H : C228 x_a0 R h) : FnW Tryz.prog 228 #[x_a0] R h :=
  fn_sound mixed (an := an228) Tryz.func228 (c := bodyOf Tryz.f228) (by kernel_rfl) (by kernel_rfl) (by kernel_rfl) (by rw [← e228]; exact H)
theorem b228 : ∃ fn, Tryz.prog.funcs[228]? = some fn ∧ fn.body.isSome = true ∧ (fn.name == "runtime.NumGoroutine") = false := ⟨_, Tryz.func228, by kernel_rfl, by kernel_rfl⟩

/- maps.Keys[map[string]*argosy/locks.gate,string,*argosy/locks.gate]$1 -/
def an229 : Ann := { loops := [(1, [], [(3, 3), (6, 13)])], seqs := [], blks := [], plans := [] }
def C229 (yield_a0 a_a1 : Value) (R : Value → A) : A :=
 ld1 a_a1 fun v1 =>
 ru Tryz.prog (Instr.range 207 v1) fun v2 =>
 lp 0 (fun _ nx3 =>
 ru Tryz.prog (Instr.next v2 false 0) fun v4 =>
  ex 0 v4 fun v5 =>
  cn v5
  (qt Tryz.prog (Instr.entry v2) fun v6 =>
  ex 0 v6 fun v7 =>
  CV Tryz.prog yield_a0 [v7] fun v8 =>
  un .not v8 fun v9 =>
  cn v9
  (R (Value.tuple #[]))
  (nx3))
  (R (Value.tuple #[]))) []
theorem e229 (yield_a0 a_a1 : Value) (R : Value → A) : C229 yield_a0 a_a1 R = W Tryz.prog an229 (bodyOf Tryz.f229) (topQ Tryz.prog Tryz.f229.results R) (ini [yield_a0, a_a1]) := by kernel_rfl
theorem c229 {yield_a0 a_a1 : Value} {R : Value → A} {h : Hp} (H : C229 yield_a0 a_a1 R h) : FnW Tryz.prog 229 #[yield_a0, a_a1] R h :=
  fn_sound mixed (an := an229) Tryz.func229 (c := bodyOf Tryz.f229) (by kernel_rfl) (by kernel_rfl) (by kernel_rfl) (by rw [← e229]; exact H)
theorem b229 : ∃ fn, Tryz.prog.funcs[229]? = some fn ∧ fn.body.isSome = true ∧ (fn.name == "runtime.NumGoroutine") = false := ⟨_, Tryz.func229, by kernel_rfl, by kernel_rfl⟩

/- argosy/locks.of$1 -/
def an230 : Ann := { loops := [], seqs := [], blks := [], plans := [] }
def C230 (c_a0 a_a1 : Value) (R : Value → A) : A :=
 bx 229 c_a0 fun c_1 =>
 fa c_1 0 fun v2 =>
 ldn 4 v2 fun v3 =>
 ldn 4 a_a1 fun v4 =>
 be Tryz.prog 27 false v3 v4 fun v5 =>
 R v5
theorem e230 (c_a0 a_a1 : Value) (R : Value → A) : C230 c_a0 a_a1 R = W Tryz.prog an230 (bodyOf Tryz.f230) (topQ Tryz.prog Tryz.f230.results R) (ini [c_a0, a_a1]) := by kernel_rfl
theorem c230 {c_a0 a_a1 : Value} {R : Value → A} {h : Hp} (H : C230 c_a0 a_a1 R h) : FnW Tryz.prog 230 #[c_a0, a_a1] R h :=
  fn_sound mixed (an := an230) Tryz.func230 (c := bodyOf Tryz.f230) (by kernel_rfl) (by kernel_rfl) (by kernel_rfl) (by rw [← e230]; exact H)
theorem b230 : ∃ fn, Tryz.prog.funcs[230]? = some fn ∧ fn.body.isSome = true ∧ (fn.name == "runtime.NumGoroutine") = false := ⟨_, Tryz.func230, by kernel_rfl, by kernel_rfl⟩

/- (*argosy/btree.Tree[string, argosy/api.Record]).Get -/
def an241 : Ann := { loops := [(2, [6], [(5, 8), (13, 41)])], seqs := [], blks := [], plans := [] }
def C241 (t_a0 key_a1 : Value) (R : Value → A) : A :=
 al [Value.bool false, Value.slice none 0 0, Value.int IntKind.i64 0, Value.int IntKind.u64 0] 86 fun value_1 =>
 nc t_a0 fun v2 =>
 fa v2 0 fun v3 =>
 ld1 v3 fun v4 =>
 lp 1 (fun _ nx5 n_6 =>
 cl Tryz.prog 326 [n_6, key_a1] fun v7 =>
  ex 0 v7 fun v8 =>
  ex 1 v7 fun v9 =>
  cn v9
  (nc n_6 fun v10 =>
   fa v10 0 fun v11 =>
   ld1 v11 fun v12 =>
   ixs 5 v12 v8 fun v13 =>
   fa v13 1 fun v14 =>
   ldn 4 v14 fun v15 =>
   st 4 value_1 v15 <|
   ldn 4 value_1 fun v16 => R (Value.tuple #[v16, Value.bool true]))
  (nc n_6 fun v17 =>
  fa v17 1 fun v18 =>
  ld1 v18 fun v19 =>
  lnS v19 fun v20 =>
  bn .eql v20 (Value.int IntKind.i64 0) fun v21 =>
  cn v21
  (ldn 4 value_1 fun v22 =>
   st 4 value_1 v22 <|
   ldn 4 value_1 fun v23 => R (Value.tuple #[v23, Value.bool false]))
  (nc n_6 fun v24 =>
  fa v24 1 fun v25 =>
  ld1 v25 fun v26 =>
  ixs 1 v26 v8 fun v27 =>
  ld1 v27 fun v28 =>
  nx5 v28))) [v4]
theorem e241 (t_a0 key_a1 : Value) (R : Value → A) : C241 t_a0 key_a1 R = W Tryz.prog an241 (bodyOf Tryz.f241) (topQ Tryz.prog Tryz.f241.results R) (ini [t_a0, key_a1]) := by kernel_rfl
theorem c241 {t_a0 key_a1 : Value} {R : Value → A} {h : Hp} (H : C241 t_a0 key_a1 R h) : FnW Tryz.prog 241 #[t_a0, key_a1] R h :=
  fn_sound mixed (an := an241) Tryz.func241 (c := bodyOf Tryz.f241) (by kernel_rfl) (by kernel_rfl) (by kernel_rfl) (by rw [← e241]; exact H)
theorem b241 : ∃ fn, Tryz.prog.funcs[241]? = some fn ∧ fn.body.isSome = true ∧ (fn.name == "runtime.NumGoroutine") = false := ⟨_, Tryz.func241, by kernel_rfl, by kernel_rfl⟩

/- argosy/store.Default -/
def an242 : Ann := { loops := [(5, [5, 11], [(5, 6), (11, 22)])], seqs := [], blks := [], plans := [] }
def C242 (key_a0 regions_a1 : Value) (R : Value → A) : A :=
 bn .lss regions_a1 (Value.int IntKind.i64 1) fun v1 =>
 cn v1
 (R (Value.int IntKind.i64 0))
 (lnT key_a0 fun v2 =>
 lp 2 (fun _ nx3 sum_4 v5 =>
 bn .lss v5 v2 fun v6 =>
  cn v6
  (pp Tryz.prog (Instr.index 9 key_a0 v5) fun v7 =>
  cvi .i64 v7 fun v8 =>
  bn .add sum_4 v8 fun v9 =>
  bn .rem v9 regions_a1 fun v10 =>
  bn .add v5 (Value.int IntKind.i64 1) fun v11 =>
  nx3 v10 v11)
  (R sum_4)) [Value.int IntKind.i64 0, Value.int IntKind.i64 0])
theorem e242 (key_a0 regions_a1 : Value) (R : Value → A) : C242 key_a0 regions_a1 R = W Tryz.prog an242 (bodyOf Tryz.f242) (topQ Tryz.prog Tryz.f242.results R) (ini [key_a0, regions_a1]) := by kernel_rfl
theorem c242 {key_a0 regions_a1 : Value} {R : Value → A} {h : Hp} (H : C242 key_a0 regions_a1 R h) : FnW Tryz.prog 242 #[key_a0, regions_a1] R h :=
  fn_sound mixed (an := an242) Tryz.func242 (c := bodyOf Tryz.f242) (by kernel_rfl) (by kernel_rfl) (by kernel_rfl) (by rw [← e242]; exact H)
theorem b242 : ∃ fn, Tryz.prog.funcs[242]? = some fn ∧ fn.body.isSome = true ∧ (fn.name == "runtime.NumGoroutine") = false := ⟨_, Tryz.func242, by kernel_rfl, by kernel_rfl⟩

/- (*argosy/btree.Tree[string, argosy/api.Record]).Delete -/
def an320 : Ann := { loops := [], seqs := [(4, [], [(15, 46)]), (6, [], [(47, 54)])], blks := [], plans := [] }
def C320 (t_a0 key_a1 : Value) (R : Value → A) : A :=
 al [Value.bool false, Value.slice none 0 0, Value.int IntKind.i64 0, Value.int IntKind.u64 0] 86 fun value_1 =>
 nc t_a0 fun v2 =>
 fa v2 0 fun v3 =>
 ld1 v3 fun v4 =>
 cl Tryz.prog 385 [v4, key_a1] fun v5 =>
 ex 0 v5 fun v6 =>
 ex 1 v5 fun v7 =>
 st 4 value_1 v6 <|
 jn 0 (fun k8 =>
 nc t_a0 fun v9 =>
  fa v9 0 fun v10 =>
  ld1 v10 fun v11 =>
  nc v11 fun v12 =>
  fa v12 0 fun v13 =>
  ld1 v13 fun v14 =>
  lnS v14 fun v15 =>
  bn .eql v15 (Value.int IntKind.i64 0) fun v16 =>
  gd v16 true (fun k => k t_a0) fun v17 =>
  gd v16 true (nc v17) fun v18 =>
  gd v16 true (fa v18 0) fun v19 =>
  gd v16 true (ld1 v19) fun v20 =>
  gd v16 true (nc v20) fun v21 =>
  gd v16 true (fa v21 1) fun v22 =>
  gd v16 true (ld1 v22) fun v23 =>
  gd v16 true (lnS v23) fun v24 =>
  gd v16 true (bn .eql v24 (Value.int IntKind.i64 1)) fun v25 =>
  pk v16 v25 (Value.bool false) fun v26 =>
  cn v26
  (nc t_a0 fun v27 =>
   fa v27 0 fun v28 =>
   ld1 v28 fun v29 =>
   nc v29 fun v30 =>
   fa v30 1 fun v31 =>
   ld1 v31 fun v32 =>
   ixs 1 v32 (Value.int IntKind.i64 0) fun v33 =>
   ld1 v33 fun v34 =>
   nc t_a0 fun v35 =>
   fa v35 0 fun v36 =>
   st 1 v36 v34 <|
   k8)
  (k8))
 (fun _ =>
 jn 0 (fun k37 =>
  cn v7
   (nc t_a0 fun v38 =>
    fa v38 1 fun v39 =>
    ld1 v39 fun v40 =>
    bn .sub v40 (Value.int IntKind.i64 1) fun v41 =>
    nc t_a0 fun v42 =>
    fa v42 1 fun v43 =>
    st 1 v43 v41 <|
    k37)
   (k37))
  (fun _ =>
  ldn 4 value_1 fun v44 =>
   st 4 value_1 v44 <|
   ldn 4 value_1 fun v45 => R (Value.tuple #[v45, v7])))
theorem e320 (t_a0 key_a1 : Value) (R : Value → A) : C320 t_a0 key_a1 R = W Tryz.prog an320 (bodyOf Tryz.f320) (topQ Tryz.prog Tryz.f320.results R) (ini [t_a0, key_a1]) := by kernel_rfl
theorem c320 {t_a0 key_a1 : Value} {R : Value → A} {h : Hp} (H : C320 t_a0 key_a1 R h) : FnW Tryz.prog 320 #[t_a0, key_a1] R h :=
  fn_sound mixed (an := an320) Tryz.func320 (c := bodyOf Tryz.f320) (by kernel_rfl) (by kernel_rfl) (by kernel_rfl) (by rw [← e320]; exact H)
theorem b320 : ∃ fn, Tryz.prog.funcs[320]? = some fn ∧ fn.body.isSome = true ∧ (fn.name == "runtime.NumGoroutine") = false := ⟨_, Tryz.func320, by kernel_rfl, by kernel_rfl⟩

/- (*argosy/btree.Tree[string, argosy/api.Record]).Put -/
def an321 : Ann := { loops := [], seqs := [(2, [8, 9, 10, 11], [(8, 24)]), (4, [], [(25, 41)]), (6, [], [(42, 50)])], blks := [], plans := [(1, (.fl 0 (.fl 1 (.fl 2 (.fl 3 (.fl 4 (.fl 5 (.fl 6 (.alt (.mu 7 [] (.fl 8 (.fl 9 (.fl 10 (.fl 11 (.fl 12 (.mu 13 [3, 5] (.mu 14 [] (.mu 15 [] (.mu 16 [] (.mu 17 [] (.nil)))))))))))) (.mu 13 [3, 5] (.mu 7 [] (.fl 8 (.fl 9 (.fl 10 (.fl 11 (.fl 12 (.mu 14 [] (.mu 15 [] (.mu 16 [] (.mu 17 [] (.nil))))))))))))))))))), [[], [0], [0, 1], [0, 1, 2], [], [], [4, 5], [0, 1, 2, 3, 4, 5, 6], [0, 1, 2, 3, 4, 5, 6, 7], [0, 1, 2, 3, 4, 5, 6, 7, 8], [0, 1, 2, 3, 4, 5, 6, 7, 8], [0, 1, 2, 3, 4, 5, 6, 7, 8], [0, 1, 2, 3, 4, 5, 6, 7, 8], [], [0, 1, 2, 3, 4, 5, 6, 7, 8, 9, 13], [0, 1, 2, 3, 4, 5, 6, 7, 8, 9, 10, 13, 14], [0, 1, 2, 3, 4, 5, 6, 7, 8, 9, 10, 11, 13, 14, 15], [0, 1, 2, 3, 4, 5, 6, 7, 8, 9, 10, 11, 12, 13, 14, 15, 16]])), (3, (.fl 0 (.fl 1 (.fl 2 (.fl 3 (.fl 5 (.fl 6 (.fl 7 (.fl 8 (.fl 9 (.alt (.mu 4 [8] (.mu 10 [3] (.fl 11 (.mu 12 [] (.fl 13 (.fl 14 (.mu 15 [] (.nil)))))))) (.mu 10 [3] (.mu 4 [8] (.fl 11 (.mu 12 [] (.fl 13 (.fl 14 (.mu 15 [] (.nil))))))))))))))))), [[], [], [1], [1, 2], [1, 2, 3], [], [5], [5, 6], [5, 6, 7], [], [5, 6, 7, 8, 9], [1, 2, 3, 4, 5, 6, 7, 8, 9, 10], [1, 2, 3, 4, 5, 6, 7, 8, 9, 10, 11], [0, 1, 2, 3, 4, 5, 6, 7, 8, 9, 10, 11, 12], [0, 1, 2, 3, 4, 5, 6, 7, 8, 9, 10, 11, 12, 13], [0, 1, 2, 3, 4, 5, 6, 7, 8, 9, 10, 11, 12, 13, 14]]))] }
def C321 (t_a0 key_a1 value_a2 : Value) (R : Value → A) : A :=
 bx 86 value_a2 fun value_1 =>
 al [Value.bool false, Value.slice none 0 0, Value.int IntKind.i64 0, Value.int IntKind.u64 0] 86 fun v2 =>
 jn 4 (fun k3 =>
 nc t_a0 fun v4 =>
  fa v4 0 fun v5 =>
  ld1 v5 fun v6 =>
  ldn 4 value_1 fun v7 =>
  bd [Value.string { data := #[] }, Value.bool false, Value.slice none 0 0, Value.int IntKind.i64 0, Value.int IntKind.u64 0] [(0, 1, key_a1), (1, 4, v7)] fun v8 =>
  an2 (cl Tryz.prog 386 [v6, v8] fun v9 =>
  ex 0 v9 fun v10 =>
  ex 1 v9 fun v11 =>
  ex 2 v9 fun v12 =>
  ex 3 v9 fun v13 =>
  al [Value.bool false, Value.slice none 0 0, Value.int IntKind.i64 0, Value.int IntKind.u64 0] 86 fun old_14 =>
  an2 (ld1 v5 (fun u _ => u = v6)) <|
  an2 (ldn 4 value_1 (fun u _ => u = v7)) <|
  st 4 old_14 v10 <|
  k3 old_14 v11 v12 v13) (al [Value.bool false, Value.slice none 0 0, Value.int IntKind.i64 0, Value.int IntKind.u64 0] 86 fun old_15 =>
  an2 (ld1 v5 (fun u _ => u = v6)) <|
  an2 (ldn 4 value_1 (fun u _ => u = v7)) <|
  cl Tryz.prog 386 [v6, v8] fun v16 =>
  ex 0 v16 fun v17 =>
  ex 1 v16 fun v18 =>
  ex 2 v16 fun v19 =>
  ex 3 v16 fun v20 =>
  st 4 old_15 v17 <|
  k3 old_15 v18 v19 v20))
 (fun _ old_21 had_22 mid_23 right_24 =>
 jn 0 (fun k25 =>
  be Tryz.prog 556 true mid_23 (Value.pointer none) fun v26 =>
   cn v26
   (nc mid_23 fun v27 =>
    ldn 5 v27 fun v28 =>
    nc t_a0 fun v29 =>
    fa v29 0 fun v30 =>
    ld1 v30 fun v31 =>
    an2 (bsl [Value.string { data := #[] }, Value.bool false, Value.slice none 0 0, Value.int IntKind.i64 0, Value.int IntKind.u64 0] 506 1 [(0, 5, v28)] fun v32 =>
    an2 (ld1 v30 (fun u _ => u = v31)) <|
    bsl [Value.pointer none] 399 2 [(0, 1, v31), (1, 1, right_24)] fun v33 =>
    an2 (ldn 5 v27 (fun u _ => u = v28)) <|
    bd [Value.slice none 0 0, Value.slice none 0 0] [(0, 1, v32), (1, 1, v33)] fun v34 =>
    bx 403 v34 fun v35 =>
    nc t_a0 fun v36 =>
    fa v36 0 fun v37 =>
    st 1 v37 v35 <|
    k25) (bsl [Value.pointer none] 399 2 [(0, 1, v31), (1, 1, right_24)] fun v38 =>
    an2 (ldn 5 v27 (fun u _ => u = v28)) <|
    bsl [Value.string { data := #[] }, Value.bool false, Value.slice none 0 0, Value.int IntKind.i64 0, Value.int IntKind.u64 0] 506 1 [(0, 5, v28)] fun v39 =>
    an2 (ld1 v30 (fun u _ => u = v31)) <|
    bd [Value.slice none 0 0, Value.slice none 0 0] [(0, 1, v39), (1, 1, v38)] fun v40 =>
    bx 403 v40 fun v41 =>
    nc t_a0 fun v42 =>
    fa v42 0 fun v43 =>
    st 1 v43 v41 <|
    k25))
   (k25))
  (fun _ =>
  jn 0 (fun k44 =>
   un .not had_22 fun v45 =>
    cn v45
    (nc t_a0 fun v46 =>
     fa v46 1 fun v47 =>
     ld1 v47 fun v48 =>
     bn .add v48 (Value.int IntKind.i64 1) fun v49 =>
     nc t_a0 fun v50 =>
     fa v50 1 fun v51 =>
     st 1 v51 v49 <|
     k44)
    (k44))
   (fun _ =>
   ldn 4 old_21 fun v52 =>
    st 4 v2 v52 <|
    ldn 4 v2 fun v53 => R (Value.tuple #[v53, had_22]))))
theorem e321 (t_a0 key_a1 value_a2 : Value) (R : Value → A) : C321 t_a0 key_a1 value_a2 R = W Tryz.prog an321 (bodyOf Tryz.f321) (topQ Tryz.prog Tryz.f321.results R) (ini [t_a0, key_a1, value_a2]) := by kernel_rfl
theorem c321 {t_a0 key_a1 value_a2 : Value} {R : Value → A} {h : Hp} (H : C321 t_a0 key_a1 value_a2 R h) : FnW Tryz.prog 321 #[t_a0, key_a1, value_a2] R h :=
  fn_sound mixed (an := an321) Tryz.func321 (c := bodyOf Tryz.f321) (by kernel_rfl) (by kernel_rfl) (by kernel_rfl) (by rw [← e321]; exact H)
theorem b321 : ∃ fn, Tryz.prog.funcs[321]? = some fn ∧ fn.body.isSome = true ∧ (fn.name == "runtime.NumGoroutine") = false := ⟨_, Tryz.func321, by kernel_rfl, by kernel_rfl⟩

/- slices.AppendSeq[[]string,string] -/
def an322 : Ann := { loops := [], seqs := [], blks := [], plans := [] }
def C322 (n0 : Nat) (s_a0 seq_a1 : Value) (R : Value → A) : A :=
 bx 48 s_a0 fun s_1 =>
 rfW Tryz.prog seq_a1 (fun n2 Q2 x2 h2 => x2.length = 1 ∧ ((fun gh2 => Kc h2 gh2 ∧ cx n2 (ld1 s_1 fun v3 =>
  bsl [Value.string { data := #[] }] 9 1 [(0, 1, x2.headD undef)] fun v4 =>
  apd [Value.string { data := #[] }] 16 9 v3 v4 fun v5 =>
  st 1 s_1 v5 <|
  Q2 Exit.normal) gh2)) h2)
 (ld1 s_1 fun v6 =>
 cx n0 (R v6))
 (cx n0 (R (Value.slice none 0 0)))
 []
theorem e322 (n0 : Nat) (s_a0 seq_a1 : Value) (R : Value → A) : C322 n0 s_a0 seq_a1 R = W Tryz.prog an322 (bodyOf Tryz.f322) (topQM n0 Tryz.prog Tryz.f322.results R) (ini [s_a0, seq_a1]) := by kernel_rfl
theorem c322 {s_a0 seq_a1 : Value} {R : Value → A} {h : Hp} (H : C322 h.size s_a0 seq_a1 R h) : FnW Tryz.prog 322 #[s_a0, seq_a1] R h :=
  fn_soundM mixed (an := an322) Tryz.func322 (c := bodyOf Tryz.f322) (by kernel_rfl) (by kernel_rfl) (by kernel_rfl) (by rw [← e322]; exact H)
theorem b322 : ∃ fn, Tryz.prog.funcs[322]? = some fn ∧ fn.body.isSome = true ∧ (fn.name == "runtime.NumGoroutine") = false := ⟨_, Tryz.func322, by kernel_rfl, by kernel_rfl⟩

/- (*argosy/btree.node[string, argosy/api.Record]).search -/
def an326 : Ann := { loops := [], seqs := [], blks := [], plans := [] }
def C326 (n_a0 key_a1 : Value) (R : Value → A) : A :=
 nc n_a0 fun v1 =>
 fa v1 0 fun v2 =>
 ld1 v2 fun v3 =>
 cl Tryz.prog 396 [v3, key_a1, Value.func (Fn.func 397) #[] #[]] fun v4 =>
 ex 0 v4 fun v5 =>
 ex 1 v4 fun v6 =>
 R (Value.tuple #[v5, v6])
theorem e326 (n_a0 key_a1 : Value) (R : Value → A) : C326 n_a0 key_a1 R = W Tryz.prog an326 (bodyOf Tryz.f326) (topQ Tryz.prog Tryz.f326.results R) (ini [n_a0, key_a1]) := by kernel_rfl
theorem c326 {n_a0 key_a1 : Value} {R : Value → A} {h : Hp} (H : C326 n_a0 key_a1 R h) : FnW Tryz.prog 326 #[n_a0, key_a1] R h :=
  fn_sound mixed (an := an326) Tryz.func326 (c := bodyOf Tryz.f326) (by kernel_rfl) (by kernel_rfl) (by kernel_rfl) (by rw [← e326]; exact H)
theorem b326 : ∃ fn, Tryz.prog.funcs[326]? = some fn ∧ fn.body.isSome = true ∧ (fn.name == "runtime.NumGoroutine") = false := ⟨_, Tryz.func326, by kernel_rfl, by kernel_rfl⟩

/- (*argosy/btree.node[string, argosy/api.Record]).take -/
def an385 : Ann := { loops := [], seqs := [], blks := [(0, [5], [(5, 5), (14, 93)])], plans := [(8, (.fl 0 (.fl 1 (.fl 2 (.fl 3 (.fl 4 (.fl 5 (.fl 6 (.fl 7 (.fl 8 (.fl 9 (.fl 10 (.fl 11 (.mu 12 [3] (.fl 13 (.mu 14 [] (.nil))))))))))))))), [[], [0], [0, 1], [0, 1, 2], [], [], [5], [5, 6], [5, 6, 7], [], [5, 6, 7, 8, 9], [5, 6, 7, 8, 9, 10], [5, 6, 7, 8, 9, 10, 11], [0, 1, 2, 3, 4, 5, 6, 7, 8, 9, 10, 11, 12], [0, 1, 2, 3, 4, 5, 6, 7, 8, 9, 10, 11, 12, 13]]))] }
def C385 (n_a0 key_a1 : Value) (R : Value → A) : A :=
 al [Value.bool false, Value.slice none 0 0, Value.int IntKind.i64 0, Value.int IntKind.u64 0] 86 fun value_1 =>
 cl Tryz.prog 326 [n_a0, key_a1] fun v2 =>
 ex 0 v2 fun v3 =>
 ex 1 v2 fun v4 =>
 jn 1 (fun k5 =>
 gd v4 true (fun k => k n_a0) fun v6 =>
  gd v4 true (nc v6) fun v7 =>
  gd v4 true (fa v7 1) fun v8 =>
  gd v4 true (ld1 v8) fun v9 =>
  gd v4 true (lnS v9) fun v10 =>
  gd v4 true (bn .eql v10 (Value.int IntKind.i64 0)) fun v11 =>
  pk v4 v11 (Value.bool false) fun v12 =>
  cn v12
  (nc n_a0 fun v13 =>
   fa v13 0 fun v14 =>
   ld1 v14 fun v15 =>
   ixs 5 v15 v3 fun v16 =>
   fa v16 1 fun v17 =>
   ldn 4 v17 fun v18 =>
   st 4 value_1 v18 <|
   nc n_a0 fun v19 =>
   fa v19 0 fun v20 =>
   ld1 v20 fun v21 =>
   bn .add v3 (Value.int IntKind.i64 1) fun v22 =>
   cl Tryz.prog 421 [v21, v3, v22] fun v23 =>
   nc n_a0 fun v24 =>
   fa v24 0 fun v25 =>
   st 1 v25 v23 <|
   ldn 4 value_1 fun v26 =>
   st 4 value_1 v26 <|
   ldn 4 value_1 fun v27 => R (Value.tuple #[v27, Value.bool true]))
  (cn v4
   (nc n_a0 fun v28 =>
    fa v28 0 fun v29 =>
    ld1 v29 fun v30 =>
    ixs 5 v30 v3 fun v31 =>
    fa v31 1 fun v32 =>
    ldn 4 v32 fun v33 =>
    st 4 value_1 v33 <|
    nc n_a0 fun v34 =>
    fa v34 0 fun v35 =>
    ld1 v35 fun v36 =>
    nc n_a0 fun v37 =>
    fa v37 1 fun v38 =>
    ld1 v38 fun v39 =>
    ixs 1 v39 v3 fun v40 =>
    ld1 v40 fun v41 =>
    cl Tryz.prog 422 [v41] fun v42 =>
    an2 (ld1 v35 (fun u _ => u = v36)) <|
    ixs 5 v36 v3 fun v43 =>
    st 5 v43 v42 <|
    cl Tryz.prog 423 [n_a0, v3] fun v44 =>
    ldn 4 value_1 fun v45 =>
    st 4 value_1 v45 <|
    ldn 4 value_1 fun v46 => R (Value.tuple #[v46, Value.bool true]))
   (nc n_a0 fun v47 =>
    fa v47 1 fun v48 =>
    ld1 v48 fun v49 =>
    lnS v49 fun v50 =>
    bn .gtr v50 (Value.int IntKind.i64 0) fun v51 =>
    cn v51
    (nc n_a0 fun v52 =>
     fa v52 1 fun v53 =>
     ld1 v53 fun v54 =>
     ixs 1 v54 v3 fun v55 =>
     ld1 v55 fun v56 =>
     cl Tryz.prog 385 [v56, key_a1] fun v57 =>
     ex 0 v57 fun v58 =>
     ex 1 v57 fun v59 =>
     st 4 value_1 v58 <|
     cl Tryz.prog 423 [n_a0, v3] fun v60 =>
     k5 v59)
    (k5 (Value.bool false)))))
 (fun _ ok_61 =>
 ldn 4 value_1 fun v62 =>
 st 4 value_1 v62 <|
 ldn 4 value_1 fun v63 => R (Value.tuple #[v63, ok_61]))
theorem e385 (n_a0 key_a1 : Value) (R : Value → A) : C385 n_a0 key_a1 R = W Tryz.prog an385 (bodyOf Tryz.f385) (topQ Tryz.prog Tryz.f385.results R) (ini [n_a0, key_a1]) := by kernel_rfl
theorem c385 {n_a0 key_a1 : Value} {R : Value → A} {h : Hp} (H : C385 n_a0 key_a1 R h) : FnW Tryz.prog 385 #[n_a0, key_a1] R h :=
  fn_sound mixed (an := an385) Tryz.func385 (c := bodyOf Tryz.f385) (by kernel_rfl) (by kernel_rfl) (by kernel_rfl) (by rw [← e385]; exact H)
theorem b385 : ∃ fn, Tryz.prog.funcs[385]? = some fn ∧ fn.body.isSome = true ∧ (fn.name == "runtime.NumGoroutine") = false := ⟨_, Tryz.func385, by kernel_rfl, by kernel_rfl⟩

/- (*argosy/btree.node[string, argosy/api.Record]).put -/
def an386 : Ann := { loops := [], seqs := [(22, [], [(130, 152)])], blks := [(0, [5], [(5, 7), (10, 11), (20, 99)])], plans := [(4, (.fl 0 (.fl 1 (.fl 2 (.fl 3 (.fl 4 (.fl 5 (.fl 6 (.fl 7 (.mu 8 [] (.fl 9 (.fl 10 (.fl 11 (.fl 12 (.fl 13 (.mu 14 [] (.mu 15 [] (.mu 16 [] (.mu 17 [] (.nil)))))))))))))))))), [[], [0], [0, 1], [0, 1, 2], [], [0, 1, 2, 3, 4], [0, 1, 2, 3, 4, 5], [], [0, 1, 2, 3, 4, 5, 6, 7], [0, 1, 2, 3, 4, 5, 6, 7, 8], [0, 1, 2, 3, 4, 5, 6, 7, 8, 9], [0, 1, 2, 3, 4, 5, 6, 7, 8, 9], [0, 1, 2, 3, 4, 5, 6, 7, 8, 9], [0, 1, 2, 3, 4, 5, 6, 7, 8, 9], [0, 1, 2, 3, 4, 5, 6, 7, 8, 9, 10], [0, 1, 2, 3, 4, 5, 6, 7, 8, 9, 10, 11, 14], [0, 1, 2, 3, 4, 5, 6, 7, 8, 9, 10, 11, 12, 14, 15], [0, 1, 2, 3, 4, 5, 6, 7, 8, 9, 10, 11, 12, 13, 14, 15, 16]])), (6, (.fl 0 (.fl 1 (.fl 2 (.fl 3 (.fl 4 (.fl 5 (.fl 6 (.fl 7 (.fl 8 (.mu 9 [4] (.mu 10 [] (.fl 11 (.fl 12 (.mu 13 [] (.nil)))))))))))))), [[], [], [1], [1, 2], [1, 2, 3], [], [], [6], [6, 7], [6, 7, 8], [1, 2, 3, 4, 5, 6, 7, 8, 9], [0, 1, 2, 3, 4, 5, 6, 7, 8, 9, 10], [0, 1, 2, 3, 4, 5, 6, 7, 8, 9, 10, 11], [0, 1, 2, 3, 4, 5, 6, 7, 8, 9, 10, 11, 12]])), (10, (.fl 0 (.fl 1 (.fl 2 (.fl 3 (.fl 4 (.fl 5 (.fl 6 (.fl 7 (.fl 8 (.mu 9 [] (.nil)))))))))), [[], [0], [0, 1], [0, 1, 2], [], [], [5], [0, 1, 2, 3, 4, 5, 6], [0, 1, 2, 3, 4, 5, 6, 7], [0, 1, 2, 3, 4, 5, 6, 7, 8]])), (13, (.fl 0 (.fl 1 (.fl 2 (.fl 3 (.fl 4 (.fl 5 (.fl 6 (.mu 7 [4] (.mu 8 [] (.fl 9 (.fl 10 (.mu 11 [] (.nil)))))))))))), [[], [], [1], [1, 2], [1, 2, 3], [], [], [6], [1, 2, 3, 4, 5, 6, 7], [0, 1, 2, 3, 4, 5, 6, 7, 8], [0, 1, 2, 3, 4, 5, 6, 7, 8, 9], [0, 1, 2, 3, 4, 5, 6, 7, 8, 9, 10]]))] }
def C386 (n_a0 x_a1 : Value) (R : Value → A) : A :=
 bx 506 x_a1 fun x_1 =>
 al [Value.bool false, Value.slice none 0 0, Value.int IntKind.i64 0, Value.int IntKind.u64 0] 86 fun old_2 =>
 fa x_1 0 fun v3 =>
 ld1 v3 fun v4 =>
 cl Tryz.prog 326 [n_a0, v4] fun v5 =>
 ex 0 v5 fun v6 =>
 ex 1 v5 fun v7 =>
 jn 1 (fun k8 =>
 cn v7
  (nc n_a0 fun v9 =>
   fa v9 0 fun v10 =>
   ld1 v10 fun v11 =>
   ixs 5 v11 v6 fun v12 =>
   fa v12 1 fun v13 =>
   ldn 4 v13 fun v14 =>
   st 4 old_2 v14 <|
   nc n_a0 fun v15 =>
   fa v15 0 fun v16 =>
   ld1 v16 fun v17 =>
   fa x_1 1 fun v18 =>
   ldn 4 v18 fun v19 =>
   ixs 5 v17 v6 fun v20 =>
   fa v20 1 fun v21 =>
   st 4 v21 v19 <|
   ldn 4 old_2 fun v22 =>
   st 4 old_2 v22 <|
   ldn 4 old_2 fun v23 => R (Value.tuple #[v23, Value.bool true, Value.pointer none, Value.pointer none]))
  (nc n_a0 fun v24 =>
   fa v24 1 fun v25 =>
   ld1 v25 fun v26 =>
   lnS v26 fun v27 =>
   bn .eql v27 (Value.int IntKind.i64 0) fun v28 =>
   cn v28
   (nc n_a0 fun v29 =>
    fa v29 0 fun v30 =>
    ld1 v30 fun v31 =>
    ldn 5 x_1 fun v32 =>
    bsl [Value.string { data := #[] }, Value.bool false, Value.slice none 0 0, Value.int IntKind.i64 0, Value.int IntKind.u64 0] 506 1 [(0, 5, v32)] fun v33 =>
    an2 (ld1 v30 (fun u _ => u = v31)) <|
    cl Tryz.prog 424 [v31, v6, v33] fun v34 =>
    nc n_a0 fun v35 =>
    fa v35 0 fun v36 =>
    st 1 v36 v34 <|
    k8 (Value.bool false))
   (nc n_a0 fun v37 =>
    fa v37 1 fun v38 =>
    ld1 v38 fun v39 =>
    ixs 1 v39 v6 fun v40 =>
    ld1 v40 fun v41 =>
    ldn 5 x_1 fun v42 =>
    cl Tryz.prog 386 [v41, v42] fun v43 =>
    ex 0 v43 fun v44 =>
    ex 1 v43 fun v45 =>
    ex 2 v43 fun v46 =>
    ex 3 v43 fun v47 =>
    st 4 old_2 v44 <|
    be Tryz.prog 556 true v46 (Value.pointer none) fun v48 =>
    cn v48
    (nc n_a0 fun v49 =>
     fa v49 0 fun v50 =>
     ld1 v50 fun v51 =>
     nc v46 fun v52 =>
     ldn 5 v52 fun v53 =>
     bsl [Value.string { data := #[] }, Value.bool false, Value.slice none 0 0, Value.int IntKind.i64 0, Value.int IntKind.u64 0] 506 1 [(0, 5, v53)] fun v54 =>
     an2 (ld1 v50 (fun u _ => u = v51)) <|
     cl Tryz.prog 424 [v51, v6, v54] fun v55 =>
     nc n_a0 fun v56 =>
     fa v56 0 fun v57 =>
     st 1 v57 v55 <|
     nc n_a0 fun v58 =>
     fa v58 1 fun v59 =>
     ld1 v59 fun v60 =>
     bn .add v6 (Value.int IntKind.i64 1) fun v61 =>
     bsl [Value.pointer none] 399 1 [(0, 1, v47)] fun v62 =>
     cl Tryz.prog 425 [v60, v61, v62] fun v63 =>
     nc n_a0 fun v64 =>
     fa v64 1 fun v65 =>
     st 1 v65 v63 <|
     k8 v45)
    (k8 v45))))
 (fun _ had_66 =>
 nc n_a0 fun v67 =>
 fa v67 0 fun v68 =>
 ld1 v68 fun v69 =>
 lnS v69 fun v70 =>
 bn .leq v70 (Value.int IntKind.i64 5) fun v71 =>
 cn v71
 (ldn 4 old_2 fun v72 =>
  st 4 old_2 v72 <|
  ldn 4 old_2 fun v73 => R (Value.tuple #[v73, had_66, Value.pointer none, Value.pointer none]))
 (nc n_a0 fun v74 =>
 fa v74 0 fun v75 =>
 ld1 v75 fun v76 =>
 ixs 5 v76 (Value.int IntKind.i64 2) fun v77 =>
 ldn 5 v77 fun v78 =>
 al [Value.string { data := #[] }, Value.bool false, Value.slice none 0 0, Value.int IntKind.i64 0, Value.int IntKind.u64 0] 506 fun m_79 =>
 st 5 m_79 v78 <|
 nc n_a0 fun v80 =>
 fa v80 0 fun v81 =>
 ld1 v81 fun v82 =>
 slc 5 (some (Value.int IntKind.i64 3)) none none v82 fun v83 =>
 cl Tryz.prog 426 [v83] fun v84 =>
 bd [Value.slice none 0 0, Value.slice none 0 0] [(0, 1, v84)] fun v85 =>
 bx 403 v85 fun v86 =>
 nc n_a0 fun v87 =>
 fa v87 0 fun v88 =>
 ld1 v88 fun v89 =>
 slc 5 none (some (Value.int IntKind.i64 2)) (some (Value.int IntKind.i64 2)) v89 fun v90 =>
 nc n_a0 fun v91 =>
 fa v91 0 fun v92 =>
 st 1 v92 v90 <|
 jn 0 (fun k93 =>
 nc n_a0 fun v94 =>
  fa v94 1 fun v95 =>
  ld1 v95 fun v96 =>
  lnS v96 fun v97 =>
  bn .gtr v97 (Value.int IntKind.i64 0) fun v98 =>
  cn v98
  (nc n_a0 fun v99 =>
   fa v99 1 fun v100 =>
   ld1 v100 fun v101 =>
   slc 1 (some (Value.int IntKind.i64 3)) none none v101 fun v102 =>
   cl Tryz.prog 427 [v102] fun v103 =>
   nc v86 fun v104 =>
   fa v104 1 fun v105 =>
   st 1 v105 v103 <|
   nc n_a0 fun v106 =>
   fa v106 1 fun v107 =>
   ld1 v107 fun v108 =>
   slc 1 none (some (Value.int IntKind.i64 3)) (some (Value.int IntKind.i64 3)) v108 fun v109 =>
   nc n_a0 fun v110 =>
   fa v110 1 fun v111 =>
   st 1 v111 v109 <|
   k93)
  (k93))
 (fun _ =>
 ldn 4 old_2 fun v112 =>
  st 4 old_2 v112 <|
  ldn 4 old_2 fun v113 => R (Value.tuple #[v113, had_66, m_79, v86]))))
theorem e386 (n_a0 x_a1 : Value) (R : Value → A) : C386 n_a0 x_a1 R = W Tryz.prog an386 (bodyOf Tryz.f386) (topQ Tryz.prog Tryz.f386.results R) (ini [n_a0, x_a1]) := by kernel_rfl
theorem c386 {n_a0 x_a1 : Value} {R : Value → A} {h : Hp} (H : C386 n_a0 x_a1 R h) : FnW Tryz.prog 386 #[n_a0, x_a1] R h :=
  fn_sound mixed (an := an386) Tryz.func386 (c := bodyOf Tryz.f386) (by kernel_rfl) (by kernel_rfl) (by kernel_rfl) (by rw [← e386]; exact H)
theorem b386 : ∃ fn, Tryz.prog.funcs[386]? = some fn ∧ fn.body.isSome = true ∧ (fn.name == "runtime.NumGoroutine") = false := ⟨_, Tryz.func386, by kernel_rfl, by kernel_rfl⟩

/- cmp.Less[string] -/
def an393 : Ann := { loops := [], seqs := [], blks := [], plans := [] }
def C393 (x_a0 y_a1 : Value) (R : Value → A) : A :=
 cl Tryz.prog 431 [x_a0] fun v1 =>
 gd v1 true (fun k => k y_a1) fun v2 =>
 gd v1 true (cl Tryz.prog 431 [v2]) fun v3 =>
 gd v1 true (un .not v3) fun v4 =>
 pk v1 v4 (Value.bool false) fun v5 =>
 gd v5 false (fun k => k x_a0) fun v6 =>
 gd v5 false (fun k => k y_a1) fun v7 =>
 gd v5 false (bn .lss v6 v7) fun v8 =>
 pk v5 (Value.bool true) v8 fun v9 =>
 R v9
theorem e393 (x_a0 y_a1 : Value) (R : Value → A) : C393 x_a0 y_a1 R = W Tryz.prog an393 (bodyOf Tryz.f393) (topQ Tryz.prog Tryz.f393.results R) (ini [x_a0, y_a1]) := by kernel_rfl
theorem c393 {x_a0 y_a1 : Value} {R : Value → A} {h : Hp} (H : C393 x_a0 y_a1 R h) : FnW Tryz.prog 393 #[x_a0, y_a1] R h :=
  fn_sound mixed (an := an393) Tryz.func393 (c := bodyOf Tryz.f393) (by kernel_rfl) (by kernel_rfl) (by kernel_rfl) (by rw [← e393]; exact H)
theorem b393 : ∃ fn, Tryz.prog.funcs[393]? = some fn ∧ fn.body.isSome = true ∧ (fn.name == "runtime.NumGoroutine") = false := ⟨_, Tryz.func393, by kernel_rfl, by kernel_rfl⟩

/- slices.BinarySearchFunc[[]argosy/btree.item[string, argosy/api.Record],argosy/btree.item[string, argosy/api.Record],string] -/
def an396 : Ann := { loops := [(3, [9, 10], [(9, 11), (15, 34)])], seqs := [], blks := [(1, [9, 10], [(9, 11), (18, 34)])], plans := [] }
def C396 (x_a0 target_a1 cmp_a2 : Value) (R : Value → A) : A :=
 lnS x_a0 fun v1 =>
 lp 2 (fun _ nx2 i_3 j_4 =>
 bn .lss i_3 j_4 fun v5 =>
  cn v5
  (jn 2 (fun k6 =>
  bn .add i_3 j_4 fun v7 =>
   cvi .u64 v7 fun v8 =>
   bn .shr v8 (Value.int IntKind.u64 1) fun v9 =>
   cvi .i64 v9 fun v10 =>
   ixs 5 x_a0 v10 fun v11 =>
   ldn 5 v11 fun v12 =>
   CV Tryz.prog cmp_a2 [v12, target_a1] fun v13 =>
   bn .lss v13 (Value.int IntKind.i64 0) fun v14 =>
   cn v14
   (bn .add v10 (Value.int IntKind.i64 1) fun v15 =>
    k6 v15 j_4)
   (k6 i_3 v10))
  (fun _ i_16 j_17 =>
  nx2 i_16 j_17))
  (bn .lss i_3 v1 fun v18 =>
 gd v18 true (fun k => k cmp_a2) fun v19 =>
 gd v18 true (fun k => k x_a0) fun v20 =>
 gd v18 true (fun k => k i_3) fun v21 =>
 gd v18 true (ixs 5 v20 v21) fun v22 =>
 gd v18 true (ldn 5 v22) fun v23 =>
 gd v18 true (fun k => k target_a1) fun v24 =>
 gd v18 true (CV Tryz.prog v19 [v23, v24]) fun v25 =>
 gd v18 true (bn .eql v25 (Value.int IntKind.i64 0)) fun v26 =>
 pk v18 v26 (Value.bool false) fun v27 =>
 R (Value.tuple #[i_3, v27]))) [Value.int IntKind.i64 0, v1]
theorem e396 (x_a0 target_a1 cmp_a2 : Value) (R : Value → A) : C396 x_a0 target_a1 cmp_a2 R = W Tryz.prog an396 (bodyOf Tryz.f396) (topQ Tryz.prog Tryz.f396.results R) (ini [x_a0, target_a1, cmp_a2]) := by kernel_rfl
theorem c396 {x_a0 target_a1 cmp_a2 : Value} {R : Value → A} {h : Hp} (H : C396 x_a0 target_a1 cmp_a2 R h) : FnW Tryz.prog 396 #[x_a0, target_a1, cmp_a2] R h :=
  fn_sound mixed (an := an396) Tryz.func396 (c := bodyOf Tryz.f396) (by kernel_rfl) (by kernel_rfl) (by kernel_rfl) (by rw [← e396]; exact H)
theorem b396 : ∃ fn, Tryz.prog.funcs[396]? = some fn ∧ fn.body.isSome = true ∧ (fn.name == "runtime.NumGoroutine") = false := ⟨_, Tryz.func396, by kernel_rfl, by kernel_rfl⟩

/- (*argosy/btree.node[string, argosy/api.Record]).search$1 -/
def an397 : Ann := { loops := [], seqs := [], blks := [], plans := [] }
def C397 (x_a0 k_a1 : Value) (R : Value → A) : A :=
 bx 506 x_a0 fun x_1 =>
 fa x_1 0 fun v2 =>
 ld1 v2 fun v3 =>
 cl Tryz.prog 398 [v3, k_a1] fun v4 =>
 R v4
theorem e397 (x_a0 k_a1 : Value) (R : Value → A) : C397 x_a0 k_a1 R = W Tryz.prog an397 (bodyOf Tryz.f397) (topQ Tryz.prog Tryz.f397.results R) (ini [x_a0, k_a1]) := by kernel_rfl
theorem c397 {x_a0 k_a1 : Value} {R : Value → A} {h : Hp} (H : C397 x_a0 k_a1 R h) : FnW Tryz.prog 397 #[x_a0, k_a1] R h :=
  fn_sound mixed (an := an397) Tryz.func397 (c := bodyOf Tryz.f397) (by kernel_rfl) (by kernel_rfl) (by kernel_rfl) (by rw [← e397]; exact H)
theorem b397 : ∃ fn, Tryz.prog.funcs[397]? = some fn ∧ fn.body.isSome = true ∧ (fn.name == "runtime.NumGoroutine") = false := ⟨_, Tryz.func397, by kernel_rfl, by kernel_rfl⟩

/- cmp.Compare[string] -/
def an398 : Ann := { loops := [], seqs := [], blks := [], plans := [] }
def C398 (x_a0 y_a1 : Value) (R : Value → A) : A :=
 cl Tryz.prog 431 [x_a0] fun v1 =>
 cl Tryz.prog 431 [y_a1] fun v2 =>
 cn v1
 (cn v2
  (R (Value.int IntKind.i64 0))
  (R (Value.int IntKind.i64 (-1))))
 (cn v2
 (R (Value.int IntKind.i64 1))
 (bn .lss x_a0 y_a1 fun v3 =>
 cn v3
 (R (Value.int IntKind.i64 (-1)))
 (bn .gtr x_a0 y_a1 fun v4 =>
 cn v4
 (R (Value.int IntKind.i64 1))
 (R (Value.int IntKind.i64 0)))))
theorem e398 (x_a0 y_a1 : Value) (R : Value → A) : C398 x_a0 y_a1 R = W Tryz.prog an398 (bodyOf Tryz.f398) (topQ Tryz.prog Tryz.f398.results R) (ini [x_a0, y_a1]) := by kernel_rfl
theorem c398 {x_a0 y_a1 : Value} {R : Value → A} {h : Hp} (H : C398 x_a0 y_a1 R h) : FnW Tryz.prog 398 #[x_a0, y_a1] R h :=
  fn_sound mixed (an := an398) Tryz.func398 (c := bodyOf Tryz.f398) (by kernel_rfl) (by kernel_rfl) (by kernel_rfl) (by rw [← e398]; exact H)
theorem b398 : ∃ fn, Tryz.prog.funcs[398]? = some fn ∧ fn.body.isSome = true ∧ (fn.name == "runtime.NumGoroutine") = false := ⟨_, Tryz.func398, by kernel_rfl, by kernel_rfl⟩

/- slices.Delete[[]argosy/btree.item[string, argosy/api.Record],argosy/btree.item[string, argosy/api.Record]] -/
def an421 : Ann := { loops := [], seqs := [], blks := [], plans := [(5, (.fl 0 (.fl 1 (.fl 2 (.fl 3 (.fl 4 (.fl 5 (.mu 6 [] (.mu 7 [] (.nil)))))))), [[], [], [0, 1], [], [], [3, 4], [0, 1, 2, 3, 4, 5], [0, 1, 2, 3, 4, 5, 6]]))] }
def C421 (s_a0 i_a1 j_a2 : Value) (R : Value → A) : A :=
 lnS s_a0 fun v1 =>
 slc 5 (some i_a1) (some j_a2) (some v1) s_a0 fun v2 =>
 bn .eql i_a1 j_a2 fun v3 =>
 cn v3
 (R s_a0)
 (lnS s_a0 fun v4 =>
 slc 5 none (some i_a1) none s_a0 fun v5 =>
 slc 5 (some j_a2) none none s_a0 fun v6 =>
 apd [Value.string { data := #[] }, Value.bool false, Value.slice none 0 0, Value.int IntKind.i64 0, Value.int IntKind.u64 0] 64 506 v5 v6 fun v7 =>
 lnS v7 fun v8 =>
 slc 5 (some v8) (some v4) none v7 fun v9 =>
 ru Tryz.prog (Builtin.clear_ #[400] 0 #[v9]) fun v10 =>
 R v7)
theorem e421 (s_a0 i_a1 j_a2 : Value) (R : Value → A) : C421 s_a0 i_a1 j_a2 R = W Tryz.prog an421 (bodyOf Tryz.f421) (topQ Tryz.prog Tryz.f421.results R) (ini [s_a0, i_a1, j_a2]) := by kernel_rfl
theorem c421 {s_a0 i_a1 j_a2 : Value} {R : Value → A} {h : Hp} (H : C421 s_a0 i_a1 j_a2 R h) : FnW Tryz.prog 421 #[s_a0, i_a1, j_a2] R h :=
  fn_sound mixed (an := an421) Tryz.func421 (c := bodyOf Tryz.f421) (by kernel_rfl) (by kernel_rfl) (by kernel_rfl) (by rw [← e421]; exact H)
theorem b421 : ∃ fn, Tryz.prog.funcs[421]? = some fn ∧ fn.body.isSome = true ∧ (fn.name == "runtime.NumGoroutine") = false := ⟨_, Tryz.func421, by kernel_rfl, by kernel_rfl⟩

/- (*argosy/btree.node[string, argosy/api.Record]).last -/
def an422 : Ann := { loops := [], seqs := [], blks := [], plans := [(6, (.fl 0 (.fl 1 (.fl 2 (.fl 3 (.fl 4 (.fl 5 (.fl 6 (.fl 7 (.fl 8 (.fl 9 (.fl 10 (.fl 11 (.mu 12 [3, 7, 8, 11] (.mu 13 [] (.nil)))))))))))))), [[], [0], [0, 1], [0, 1, 2], [], [4], [4, 5], [4, 5, 6], [4, 5, 6, 7], [4, 5, 6, 7, 8], [0, 1, 2, 3, 4, 5, 6, 7, 8, 9], [0, 1, 2, 3, 4, 5, 6, 7, 8, 9, 10], [], [0, 1, 2, 3, 4, 5, 6, 7, 8, 9, 10, 11, 12]])), (7, (.fl 0 (.fl 1 (.fl 2 (.fl 3 (.fl 4 (.fl 5 (.fl 6 (.fl 7 (.fl 8 (.fl 9 (.fl 10 (.fl 11 (.fl 12 (.fl 13 (.mu 14 [] (.nil))))))))))))))), [[], [], [1], [1, 2], [1, 2, 3], [], [5], [5, 6], [5, 6, 7], [5, 6, 7, 8], [5, 6, 7, 8, 9], [1, 2, 3, 4, 5, 6, 7, 8, 9, 10], [0, 1, 2, 3, 4, 5, 6, 7, 8, 9, 10, 11], [0, 1, 2, 3, 4, 5, 6, 7, 8, 9, 10, 11, 12], [0, 1, 2, 3, 4, 5, 6, 7, 8, 9, 10, 11, 12, 13]]))] }
def C422 (n_a0 : Value) (R : Value → A) : A :=
 al [Value.string { data := #[] }, Value.bool false, Value.slice none 0 0, Value.int IntKind.i64 0, Value.int IntKind.u64 0] 506 fun v1 =>
 nc n_a0 fun v2 =>
 fa v2 1 fun v3 =>
 ld1 v3 fun v4 =>
 lnS v4 fun v5 =>
 bn .sub v5 (Value.int IntKind.i64 1) fun v6 =>
 bn .geq v6 (Value.int IntKind.i64 0) fun v7 =>
 cn v7
 (nc n_a0 fun v8 =>
  fa v8 1 fun v9 =>
  ld1 v9 fun v10 =>
  ixs 1 v10 v6 fun v11 =>
  ld1 v11 fun v12 =>
  cl Tryz.prog 422 [v12] fun v13 =>
  al [Value.string { data := #[] }, Value.bool false, Value.slice none 0 0, Value.int IntKind.i64 0, Value.int IntKind.u64 0] 506 fun x_14 =>
  st 5 x_14 v13 <|
  cl Tryz.prog 423 [n_a0, v6] fun v15 =>
  ldn 5 x_14 fun v16 =>
  st 5 v1 v16 <|
  ldn 5 v1 fun v17 => R v17)
 (nc n_a0 fun v18 =>
 fa v18 0 fun v19 =>
 ld1 v19 fun v20 =>
 nc n_a0 fun v21 =>
 fa v21 0 fun v22 =>
 ld1 v22 fun v23 =>
 lnS v23 fun v24 =>
 bn .sub v24 (Value.int IntKind.i64 1) fun v25 =>
 ixs 5 v20 v25 fun v26 =>
 ldn 5 v26 fun v27 =>
 al [Value.string { data := #[] }, Value.bool false, Value.slice none 0 0, Value.int IntKind.i64 0, Value.int IntKind.u64 0] 506 fun x_28 =>
 an2 (ld1 v19 (fun u _ => u = v20)) <|
 an2 (ld1 v22 (fun u _ => u = v23)) <|
 an2 (lnS v23 (fun u _ => u = v24)) <|
 an2 (ldn 5 v26 (fun u _ => u = v27)) <|
 st 5 x_28 v27 <|
 nc n_a0 fun v29 =>
 fa v29 0 fun v30 =>
 ld1 v30 fun v31 =>
 nc n_a0 fun v32 =>
 fa v32 0 fun v33 =>
 ld1 v33 fun v34 =>
 lnS v34 fun v35 =>
 bn .sub v35 (Value.int IntKind.i64 1) fun v36 =>
 slc 5 none (some v36) none v31 fun v37 =>
 nc n_a0 fun v38 =>
 fa v38 0 fun v39 =>
 st 1 v39 v37 <|
 ldn 5 x_28 fun v40 =>
 st 5 v1 v40 <|
 ldn 5 v1 fun v41 => R v41)
theorem e422 (n_a0 : Value) (R : Value → A) : C422 n_a0 R = W Tryz.prog an422 (bodyOf Tryz.f422) (topQ Tryz.prog Tryz.f422.results R) (ini [n_a0]) := by kernel_rfl
theorem c422 {n_a0 : Value} {R : Value → A} {h : Hp} (H : C422 n_a0 R h) : FnW Tryz.prog 422 #[n_a0] R h :=
  fn_sound mixed (an := an422) Tryz.func422 (c := bodyOf Tryz.f422) (by kernel_rfl) (by kernel_rfl) (by kernel_rfl) (by rw [← e422]; exact H)
theorem b422 : ∃ fn, Tryz.prog.funcs[422]? = some fn ∧ fn.body.isSome = true ∧ (fn.name == "runtime.NumGoroutine") = false := ⟨_, Tryz.func422, by kernel_rfl, by kernel_rfl⟩

/- (*argosy/btree.node[string, argosy/api.Record]).mend -/
def an423 : Ann := { loops := [], seqs := [], blks := [(0, [], [(1, 1), (5, 9), (17, 298)])], plans := [(2, (.fl 0 (.fl 1 (.fl 2 (.fl 3 (.fl 4 (.fl 5 (.fl 6 (.fl 7 (.fl 8 (.fl 9 (.fl 10 (.fl 11 (.fl 12 (.fl 13 (.fl 14 (.mu 15 [11, 14] (.mu 16 [] (.nil))))))))))))))))), [[], [0], [0, 1], [0, 1, 2], [], [4], [0, 1, 2, 3, 4, 5], [0, 1, 2, 3, 4, 5, 6], [], [8], [8, 9], [8, 9, 10], [], [8, 9, 10, 11, 12], [8, 9, 10, 11, 12, 13], [0, 1, 2, 3, 4, 5, 6, 7], [0, 1, 2, 3, 4, 5, 6, 7, 8, 9, 10, 11, 12, 13, 14, 15]])), (3, (.fl 0 (.fl 1 (.fl 2 (.fl 3 (.fl 4 (.fl 5 (.fl 6 (.fl 7 (.fl 8 (.fl 9 (.fl 10 (.fl 11 (.fl 12 (.fl 15 (.fl 16 (.fl 17 (.fl 18 (.mu 13 [4, 18] (.mu 14 [18] (.mu 19 [] (.fl 20 (.fl 21 (.mu 22 [] (.nil))))))))))))))))))))))), [[], [], [1], [1, 2], [1, 2, 3], [], [5], [5, 6], [5, 6, 7], [], [9], [5, 6, 7, 8, 9, 10], [5, 6, 7, 8, 9, 10, 11], [5, 6, 7, 8, 9, 10, 11, 12], [1, 2, 3, 4, 5, 6, 7, 8, 9, 10, 11, 12, 13], [], [15], [15, 16], [15, 16, 17], [1, 2, 3, 4, 5, 6, 7, 8, 9, 10, 11, 12, 13, 14, 15, 16, 17, 18], [0, 1, 2, 3, 4, 5, 6, 7, 8, 9, 10, 11, 12, 13, 14, 15, 16, 17, 18, 19], [0, 1, 2, 3, 4, 5, 6, 7, 8, 9, 10, 11, 12, 13, 14, 15, 16, 17, 18, 19, 20], [0, 1, 2, 3, 4, 5, 6, 7, 8, 9, 10, 11, 12, 13, 14, 15, 16, 17, 18, 19, 20, 21]])), (4, (.fl 0 (.fl 1 (.fl 2 (.fl 3 (.fl 4 (.fl 5 (.fl 6 (.fl 7 (.fl 8 (.mu 9 [] (.fl 10 (.fl 11 (.mu 12 [] (.nil))))))))))))), [[], [], [1], [1, 2], [1, 2, 3], [], [5], [5, 6], [5, 6, 7], [1, 2, 3, 4, 5, 6, 7, 8], [0, 1, 2, 3, 4, 5, 6, 7, 8, 9], [0, 1, 2, 3, 4, 5, 6, 7, 8, 9, 10], [0, 1, 2, 3, 4, 5, 6, 7, 8, 9, 10, 11]])), (11, (.fl 0 (.fl 1 (.fl 2 (.fl 3 (.fl 4 (.fl 5 (.fl 6 (.fl 7 (.fl 8 (.fl 9 (.fl 10 (.fl 11 (.fl 12 (.mu 13 [4] (.mu 14 [] (.fl 15 (.fl 16 (.mu 17 [] (.nil)))))))))))))))))), [[], [], [1], [1, 2], [1, 2, 3], [], [5], [5, 6], [5, 6, 7], [], [9], [5, 6, 7, 8, 9, 10], [5, 6, 7, 8, 9, 10, 11], [5, 6, 7, 8, 9, 10, 11, 12], [1, 2, 3, 4, 5, 6, 7, 8, 9, 10, 11, 12, 13], [0, 1, 2, 3, 4, 5, 6, 7, 8, 9, 10, 11, 12, 13, 14], [0, 1, 2, 3, 4, 5, 6, 7, 8, 9, 10, 11, 12, 13, 14, 15], [0, 1, 2, 3, 4, 5, 6, 7, 8, 9, 10, 11, 12, 13, 14, 15, 16]])), (12, (.fl 0 (.fl 1 (.fl 2 (.fl 3 (.fl 4 (.fl 5 (.fl 6 (.fl 7 (.fl 8 (.fl 9 (.fl 10 (.fl 11 (.fl 12 (.fl 13 (.mu 14 [] (.nil))))))))))))))), [[], [0], [0, 1], [0, 1, 2], [], [4], [], [6], [6, 7], [6, 7, 8], [], [6, 7, 8, 9, 10], [6, 7, 8, 9, 10, 11], [0, 1, 2, 3, 4, 5, 6, 7, 8, 9, 10, 11, 12], [0, 1, 2, 3, 4, 5, 6, 7, 8, 9, 10, 11, 12, 13]])), (15, (.fl 0 (.fl 1 (.fl 2 (.fl 3 (.fl 4 (.fl 5 (.fl 6 (.fl 7 (.fl 8 (.fl 9 (.fl 10 (.fl 11 (.fl 12 (.mu 13 [4] (.mu 14 [] (.fl 15 (.fl 16 (.mu 17 [] (.nil)))))))))))))))))), [[], [], [1], [1, 2], [1, 2, 3], [], [5], [5, 6], [5, 6, 7], [], [9], [5, 6, 7, 8, 9, 10], [5, 6, 7, 8, 9, 10, 11], [5, 6, 7, 8, 9, 10, 11, 12], [1, 2, 3, 4, 5, 6, 7, 8, 9, 10, 11, 12, 13], [0, 1, 2, 3, 4, 5, 6, 7, 8, 9, 10, 11, 12, 13, 14], [0, 1, 2, 3, 4, 5, 6, 7, 8, 9, 10, 11, 12, 13, 14, 15], [0, 1, 2, 3, 4, 5, 6, 7, 8, 9, 10, 11, 12, 13, 14, 15, 16]])), (19, (.fl 0 (.fl 1 (.fl 2 (.fl 3 (.fl 4 (.fl 5 (.fl 6 (.fl 7 (.fl 8 (.fl 9 (.fl 10 (.fl 11 (.mu 12 [4] (.mu 13 [] (.fl 14 (.fl 15 (.mu 16 [] (.nil))))))))))))))))), [[], [], [1], [1, 2], [1, 2, 3], [], [5], [5, 6], [5, 6, 7], [], [5, 6, 7, 8, 9], [5, 6, 7, 8, 9, 10], [5, 6, 7, 8, 9, 10, 11], [1, 2, 3, 4, 5, 6, 7, 8, 9, 10, 11, 12], [0, 1, 2, 3, 4, 5, 6, 7, 8, 9, 10, 11, 12, 13], [0, 1, 2, 3, 4, 5, 6, 7, 8, 9, 10, 11, 12, 13, 14], [0, 1, 2, 3, 4, 5, 6, 7, 8, 9, 10, 11, 12, 13, 14, 15]])), (20, (.fl 0 (.fl 1 (.fl 2 (.fl 3 (.fl 4 (.fl 5 (.fl 6 (.fl 7 (.fl 8 (.fl 9 (.fl 10 (.fl 11 (.mu 12 [] (.nil))))))))))))), [[], [0], [0, 1], [0, 1, 2], [], [], [5], [5, 6], [5, 6, 7], [5, 6, 7, 8], [5, 6, 7, 8, 9], [0, 1, 2, 3, 4, 5, 6, 7, 8, 9, 10], [0, 1, 2, 3, 4, 5, 6, 7, 8, 9, 10, 11]])), (23, (.fl 0 (.fl 1 (.fl 2 (.fl 3 (.fl 4 (.fl 5 (.fl 6 (.fl 7 (.fl 8 (.fl 9 (.fl 10 (.mu 11 [4] (.mu 12 [] (.fl 13 (.fl 14 (.mu 15 [] (.nil)))))))))))))))), [[], [], [1], [1, 2], [1, 2, 3], [], [5], [5, 6], [5, 6, 7], [5, 6, 7, 8], [5, 6, 7, 8, 9], [5, 6, 7, 8, 9, 10], [1, 2, 3, 4, 5, 6, 7, 8, 9, 10, 11], [0, 1, 2, 3, 4, 5, 6, 7, 8, 9, 10, 11, 12], [0, 1, 2, 3, 4, 5, 6, 7, 8, 9, 10, 11, 12, 13], [0, 1, 2, 3, 4, 5, 6, 7, 8, 9, 10, 11, 12, 13, 14]]))] }
def C423 (n_a0 i_a1 : Value) (R : Value → A) : A :=
 nc n_a0 fun v1 =>
 fa v1 1 fun v2 =>
 ld1 v2 fun v3 =>
 ixs 1 v3 i_a1 fun v4 =>
 ld1 v4 fun v5 =>
 jn 0 (fun k6 =>
 nc v5 fun v7 =>
  fa v7 0 fun v8 =>
  ld1 v8 fun v9 =>
  lnS v9 fun v10 =>
  bn .geq v10 (Value.int IntKind.i64 2) fun v11 =>
  cn v11
  (k6)
  (bn .gtr i_a1 (Value.int IntKind.i64 0) fun v12 =>
   gd v12 true (fun k => k n_a0) fun v13 =>
   gd v12 true (nc v13) fun v14 =>
   gd v12 true (fa v14 1) fun v15 =>
   gd v12 true (ld1 v15) fun v16 =>
   gd v12 true (fun k => k i_a1) fun v17 =>
   gd v12 true (bn .sub v17 (Value.int IntKind.i64 1)) fun v18 =>
   gd v12 true (ixs 1 v16 v18) fun v19 =>
   gd v12 true (ld1 v19) fun v20 =>
   gd v12 true (nc v20) fun v21 =>
   gd v12 true (fa v21 0) fun v22 =>
   gd v12 true (ld1 v22) fun v23 =>
   gd v12 true (lnS v23) fun v24 =>
   gd v12 true (bn .gtr v24 (Value.int IntKind.i64 2)) fun v25 =>
   pk v12 v25 (Value.bool false) fun v26 =>
   cn v26
   (nc n_a0 fun v27 =>
    fa v27 1 fun v28 =>
    ld1 v28 fun v29 =>
    bn .sub i_a1 (Value.int IntKind.i64 1) fun v30 =>
    ixs 1 v29 v30 fun v31 =>
    ld1 v31 fun v32 =>
    nc v32 fun v33 =>
    fa v33 0 fun v34 =>
    ld1 v34 fun v35 =>
    lnS v35 fun v36 =>
    bn .sub v36 (Value.int IntKind.i64 1) fun v37 =>
    nc v5 fun v38 =>
    fa v38 0 fun v39 =>
    ld1 v39 fun v40 =>
    nc n_a0 fun v41 =>
    fa v41 0 fun v42 =>
    ld1 v42 fun v43 =>
    bn .sub i_a1 (Value.int IntKind.i64 1) fun v44 =>
    ixs 5 v43 v44 fun v45 =>
    ldn 5 v45 fun v46 =>
    bsl [Value.string { data := #[] }, Value.bool false, Value.slice none 0 0, Value.int IntKind.i64 0, Value.int IntKind.u64 0] 506 1 [(0, 5, v46)] fun v47 =>
    an2 (ld1 v39 (fun u _ => u = v40)) <|
    cl Tryz.prog 424 [v40, Value.int IntKind.i64 0, v47] fun v48 =>
    nc v5 fun v49 =>
    fa v49 0 fun v50 =>
    st 1 v50 v48 <|
    nc n_a0 fun v51 =>
    fa v51 0 fun v52 =>
    ld1 v52 fun v53 =>
    bn .sub i_a1 (Value.int IntKind.i64 1) fun v54 =>
    nc v32 fun v55 =>
    fa v55 0 fun v56 =>
    ld1 v56 fun v57 =>
    ixs 5 v57 v37 fun v58 =>
    ldn 5 v58 fun v59 =>
    ixs 5 v53 v54 fun v60 =>
    st 5 v60 v59 <|
    nc v32 fun v61 =>
    fa v61 0 fun v62 =>
    ld1 v62 fun v63 =>
    slc 5 none (some v37) none v63 fun v64 =>
    nc v32 fun v65 =>
    fa v65 0 fun v66 =>
    st 1 v66 v64 <|
    nc v32 fun v67 =>
    fa v67 1 fun v68 =>
    ld1 v68 fun v69 =>
    lnS v69 fun v70 =>
    bn .gtr v70 (Value.int IntKind.i64 0) fun v71 =>
    cn v71
    (nc v5 fun v72 =>
     fa v72 1 fun v73 =>
     ld1 v73 fun v74 =>
     nc v32 fun v75 =>
     fa v75 1 fun v76 =>
     ld1 v76 fun v77 =>
     bn .add v37 (Value.int IntKind.i64 1) fun v78 =>
     ixs 1 v77 v78 fun v79 =>
     ld1 v79 fun v80 =>
     bsl [Value.pointer none] 399 1 [(0, 1, v80)] fun v81 =>
     an2 (ld1 v73 (fun u _ => u = v74)) <|
     cl Tryz.prog 425 [v74, Value.int IntKind.i64 0, v81] fun v82 =>
     nc v5 fun v83 =>
     fa v83 1 fun v84 =>
     st 1 v84 v82 <|
     nc v32 fun v85 =>
     fa v85 1 fun v86 =>
     ld1 v86 fun v87 =>
     bn .add v37 (Value.int IntKind.i64 1) fun v88 =>
     slc 1 none (some v88) none v87 fun v89 =>
     nc v32 fun v90 =>
     fa v90 1 fun v91 =>
     st 1 v91 v89 <|
     k6)
    (k6))
   (bn .add i_a1 (Value.int IntKind.i64 1) fun v92 =>
    nc n_a0 fun v93 =>
    fa v93 1 fun v94 =>
    ld1 v94 fun v95 =>
    lnS v95 fun v96 =>
    bn .lss v92 v96 fun v97 =>
    gd v97 true (fun k => k n_a0) fun v98 =>
    gd v97 true (nc v98) fun v99 =>
    gd v97 true (fa v99 1) fun v100 =>
    gd v97 true (ld1 v100) fun v101 =>
    gd v97 true (fun k => k i_a1) fun v102 =>
    gd v97 true (bn .add v102 (Value.int IntKind.i64 1)) fun v103 =>
    gd v97 true (ixs 1 v101 v103) fun v104 =>
    gd v97 true (ld1 v104) fun v105 =>
    gd v97 true (nc v105) fun v106 =>
    gd v97 true (fa v106 0) fun v107 =>
    gd v97 true (ld1 v107) fun v108 =>
    gd v97 true (lnS v108) fun v109 =>
    gd v97 true (bn .gtr v109 (Value.int IntKind.i64 2)) fun v110 =>
    pk v97 v110 (Value.bool false) fun v111 =>
    cn v111
    (nc n_a0 fun v112 =>
     fa v112 1 fun v113 =>
     ld1 v113 fun v114 =>
     bn .add i_a1 (Value.int IntKind.i64 1) fun v115 =>
     ixs 1 v114 v115 fun v116 =>
     ld1 v116 fun v117 =>
     nc v5 fun v118 =>
     fa v118 0 fun v119 =>
     ld1 v119 fun v120 =>
     nc n_a0 fun v121 =>
     fa v121 0 fun v122 =>
     ld1 v122 fun v123 =>
     ixs 5 v123 i_a1 fun v124 =>
     ldn 5 v124 fun v125 =>
     bsl [Value.string { data := #[] }, Value.bool false, Value.slice none 0 0, Value.int IntKind.i64 0, Value.int IntKind.u64 0] 506 1 [(0, 5, v125)] fun v126 =>
     an2 (ld1 v119 (fun u _ => u = v120)) <|
     apd [Value.string { data := #[] }, Value.bool false, Value.slice none 0 0, Value.int IntKind.i64 0, Value.int IntKind.u64 0] 64 506 v120 v126 fun v127 =>
     nc v5 fun v128 =>
     fa v128 0 fun v129 =>
     st 1 v129 v127 <|
     nc n_a0 fun v130 =>
     fa v130 0 fun v131 =>
     ld1 v131 fun v132 =>
     nc v117 fun v133 =>
     fa v133 0 fun v134 =>
     ld1 v134 fun v135 =>
     ixs 5 v135 (Value.int IntKind.i64 0) fun v136 =>
     ldn 5 v136 fun v137 =>
     ixs 5 v132 i_a1 fun v138 =>
     st 5 v138 v137 <|
     nc v117 fun v139 =>
     fa v139 0 fun v140 =>
     ld1 v140 fun v141 =>
     cl Tryz.prog 421 [v141, Value.int IntKind.i64 0, Value.int IntKind.i64 1] fun v142 =>
     nc v117 fun v143 =>
     fa v143 0 fun v144 =>
     st 1 v144 v142 <|
     nc v117 fun v145 =>
     fa v145 1 fun v146 =>
     ld1 v146 fun v147 =>
     lnS v147 fun v148 =>
     bn .gtr v148 (Value.int IntKind.i64 0) fun v149 =>
     cn v149
     (nc v5 fun v150 =>
      fa v150 1 fun v151 =>
      ld1 v151 fun v152 =>
      nc v117 fun v153 =>
      fa v153 1 fun v154 =>
      ld1 v154 fun v155 =>
      ixs 1 v155 (Value.int IntKind.i64 0) fun v156 =>
      ld1 v156 fun v157 =>
      bsl [Value.pointer none] 399 1 [(0, 1, v157)] fun v158 =>
      an2 (ld1 v151 (fun u _ => u = v152)) <|
      apd [Value.pointer none] 8 399 v152 v158 fun v159 =>
      nc v5 fun v160 =>
      fa v160 1 fun v161 =>
      st 1 v161 v159 <|
      nc v117 fun v162 =>
      fa v162 1 fun v163 =>
      ld1 v163 fun v164 =>
      cl Tryz.prog 448 [v164, Value.int IntKind.i64 0, Value.int IntKind.i64 1] fun v165 =>
      nc v117 fun v166 =>
      fa v166 1 fun v167 =>
      st 1 v167 v165 <|
      k6)
     (k6))
    (pp Tryz.prog (Builtin.max_ #[3, 3] 3 #[i_a1, Value.int IntKind.i64 1]) fun v168 =>
     nc n_a0 fun v169 =>
     fa v169 1 fun v170 =>
     ld1 v170 fun v171 =>
     bn .sub v168 (Value.int IntKind.i64 1) fun v172 =>
     ixs 1 v171 v172 fun v173 =>
     ld1 v173 fun v174 =>
     nc n_a0 fun v175 =>
     fa v175 1 fun v176 =>
     ld1 v176 fun v177 =>
     ixs 1 v177 v168 fun v178 =>
     ld1 v178 fun v179 =>
     an2 (ld1 v176 (fun u _ => u = v177)) <|
     an2 (ld1 v178 (fun u _ => u = v179)) <|
     nc v174 fun v180 =>
     fa v180 0 fun v181 =>
     ld1 v181 fun v182 =>
     nc n_a0 fun v183 =>
     fa v183 0 fun v184 =>
     ld1 v184 fun v185 =>
     bn .sub v168 (Value.int IntKind.i64 1) fun v186 =>
     ixs 5 v185 v186 fun v187 =>
     ldn 5 v187 fun v188 =>
     nc v179 fun v189 =>
     fa v189 0 fun v190 =>
     ld1 v190 fun v191 =>
     bsl [Value.string { data := #[] }, Value.bool false, Value.slice none 0 0, Value.int IntKind.i64 0, Value.int IntKind.u64 0] 506 1 [(0, 5, v188)] fun v192 =>
     an2 (ld1 v181 (fun u _ => u = v182)) <|
     an2 (ld1 v190 (fun u _ => u = v191)) <|
     apd [Value.string { data := #[] }, Value.bool false, Value.slice none 0 0, Value.int IntKind.i64 0, Value.int IntKind.u64 0] 64 506 v182 v192 fun v193 =>
     an2 (ld1 v190 (fun u _ => u = v191)) <|
     apd [Value.string { data := #[] }, Value.bool false, Value.slice none 0 0, Value.int IntKind.i64 0, Value.int IntKind.u64 0] 64 506 v193 v191 fun v194 =>
     nc v174 fun v195 =>
     fa v195 0 fun v196 =>
     st 1 v196 v194 <|
     nc v174 fun v197 =>
     fa v197 1 fun v198 =>
     ld1 v198 fun v199 =>
     nc v179 fun v200 =>
     fa v200 1 fun v201 =>
     ld1 v201 fun v202 =>
     apd [Value.pointer none] 8 399 v199 v202 fun v203 =>
     nc v174 fun v204 =>
     fa v204 1 fun v205 =>
     st 1 v205 v203 <|
     nc n_a0 fun v206 =>
     fa v206 0 fun v207 =>
     ld1 v207 fun v208 =>
     bn .sub v168 (Value.int IntKind.i64 1) fun v209 =>
     cl Tryz.prog 421 [v208, v209, v168] fun v210 =>
     nc n_a0 fun v211 =>
     fa v211 0 fun v212 =>
     st 1 v212 v210 <|
     nc n_a0 fun v213 =>
     fa v213 1 fun v214 =>
     ld1 v214 fun v215 =>
     bn .add v168 (Value.int IntKind.i64 1) fun v216 =>
     cl Tryz.prog 448 [v215, v168, v216] fun v217 =>
     nc n_a0 fun v218 =>
     fa v218 1 fun v219 =>
     st 1 v219 v217 <|
     k6))))
 (fun _ =>
 R (Value.tuple #[]))
theorem e423 (n_a0 i_a1 : Value) (R : Value → A) : C423 n_a0 i_a1 R = W Tryz.prog an423 (bodyOf Tryz.f423) (topQ Tryz.prog Tryz.f423.results R) (ini [n_a0, i_a1]) := by kernel_rfl
theorem c423 {n_a0 i_a1 : Value} {R : Value → A} {h : Hp} (H : C423 n_a0 i_a1 R h) : FnW Tryz.prog 423 #[n_a0, i_a1] R h :=
  fn_sound mixed (an := an423) Tryz.func423 (c := bodyOf Tryz.f423) (by kernel_rfl) (by kernel_rfl) (by kernel_rfl) (by rw [← e423]; exact H)
theorem b423 : ∃ fn, Tryz.prog.funcs[423]? = some fn ∧ fn.body.isSome = true ∧ (fn.name == "runtime.NumGoroutine") = false := ⟨_, Tryz.func423, by kernel_rfl, by kernel_rfl⟩

/- slices.Insert[[]argosy/btree.item[string, argosy/api.Record],argosy/btree.item[string, argosy/api.Record]] -/
def an424 : Ann := { loops := [], seqs := [], blks := [], plans := [(11, (.fl 0 (.fl 1 (.fl 2 (.fl 3 (.fl 4 (.fl 5 (.fl 6 (.fl 7 (.mu 8 [] (.nil))))))))), [[], [], [], [1, 2], [0, 1, 2, 3], [], [], [5, 6], [0, 1, 2, 3, 4, 5, 6, 7]])), (15, (.fl 0 (.fl 1 (.fl 2 (.fl 3 (.fl 4 (.fl 5 (.fl 6 (.fl 7 (.mu 8 [] (.nil))))))))), [[], [], [], [1, 2], [0, 1, 2, 3], [], [], [5, 6], [0, 1, 2, 3, 4, 5, 6, 7]]))] }
def C424 (s_a0 i_a1 v_a2 : Value) (R : Value → A) : A :=
 slc 5 (some i_a1) none none s_a0 fun v1 =>
 lnS v_a2 fun v2 =>
 bn .eql v2 (Value.int IntKind.i64 0) fun v3 =>
 cn v3
 (R s_a0)
 (lnS s_a0 fun v4 =>
 bn .eql i_a1 v4 fun v5 =>
 cn v5
 (apd [Value.string { data := #[] }, Value.bool false, Value.slice none 0 0, Value.int IntKind.i64 0, Value.int IntKind.u64 0] 64 506 s_a0 v_a2 fun v6 =>
  R v6)
 (bn .add v4 v2 fun v7 =>
 pp Tryz.prog (Builtin.cap_ #[400] 3 #[s_a0]) fun v8 =>
 bn .gtr v7 v8 fun v9 =>
 cn v9
 (slc 5 none (some i_a1) none s_a0 fun v10 =>
  bn .add v4 v2 fun v11 =>
  bn .sub v11 i_a1 fun v12 =>
  ru Tryz.prog (Builtin.append_ #[400, 3] 400 #[v10, v12]) fun v13 =>
  slc 5 (some i_a1) none none v13 fun v14 =>
  ru Tryz.prog (Builtin.copy_ #[400, 400] 3 #[v14, v_a2]) fun v15 =>
  bn .add i_a1 v2 fun v16 =>
  slc 5 (some v16) none none v13 fun v17 =>
  slc 5 (some i_a1) none none s_a0 fun v18 =>
  ru Tryz.prog (Builtin.copy_ #[400, 400] 3 #[v17, v18]) fun v19 =>
  R v13)
 (bn .add v4 v2 fun v20 =>
 slc 5 none (some v20) none s_a0 fun v21 =>
 bn .add i_a1 v2 fun v22 =>
 slc 5 (some v22) none none v21 fun v23 =>
 cl Tryz.prog 449 [v_a2, v23] fun v24 =>
 un .not v24 fun v25 =>
 cn v25
 (bn .add i_a1 v2 fun v26 =>
  slc 5 (some v26) none none v21 fun v27 =>
  slc 5 (some i_a1) none none v21 fun v28 =>
  ru Tryz.prog (Builtin.copy_ #[400, 400] 3 #[v27, v28]) fun v29 =>
  slc 5 (some i_a1) none none v21 fun v30 =>
  ru Tryz.prog (Builtin.copy_ #[400, 400] 3 #[v30, v_a2]) fun v31 =>
  R v21)
 (slc 5 (some v4) none none v21 fun v32 =>
 ru Tryz.prog (Builtin.copy_ #[400, 400] 3 #[v32, v_a2]) fun v33 =>
 slc 5 (some i_a1) none none v21 fun v34 =>
 cl Tryz.prog 450 [v34, v2] fun v35 =>
 R v21))))
theorem e424 (s_a0 i_a1 v_a2 : Value) (R : Value → A) : C424 s_a0 i_a1 v_a2 R = W Tryz.prog an424 (bodyOf Tryz.f424) (topQ Tryz.prog Tryz.f424.results R) (ini [s_a0, i_a1, v_a2]) := by kernel_rfl
theorem c424 {s_a0 i_a1 v_a2 : Value} {R : Value → A} {h : Hp} (H : C424 s_a0 i_a1 v_a2 R h) : FnW Tryz.prog 424 #[s_a0, i_a1, v_a2] R h :=
  fn_sound mixed (an := an424) Tryz.func424 (c := bodyOf Tryz.f424) (by kernel_rfl) (by kernel_rfl) (by kernel_rfl) (by rw [← e424]; exact H)
theorem b424 : ∃ fn, Tryz.prog.funcs[424]? = some fn ∧ fn.body.isSome = true ∧ (fn.name == "runtime.NumGoroutine") = false := ⟨_, Tryz.func424, by kernel_rfl, by kernel_rfl⟩

/- slices.Insert[[]*argosy/btree.node[string, argosy/api.Record],*argosy/btree.node[string, argosy/api.Record]] -/
def an425 : Ann := { loops := [], seqs := [], blks := [], plans := [(11, (.fl 0 (.fl 1 (.fl 2 (.fl 3 (.fl 4 (.fl 5 (.fl 6 (.fl 7 (.mu 8 [] (.nil))))))))), [[], [], [], [1, 2], [0, 1, 2, 3], [], [], [5, 6], [0, 1, 2, 3, 4, 5, 6, 7]])), (15, (.fl 0 (.fl 1 (.fl 2 (.fl 3 (.fl 4 (.fl 5 (.fl 6 (.fl 7 (.mu 8 [] (.nil))))))))), [[], [], [], [1, 2], [0, 1, 2, 3], [], [], [5, 6], [0, 1, 2, 3, 4, 5, 6, 7]]))] }
def C425 (s_a0 i_a1 v_a2 : Value) (R : Value → A) : A :=
 slc 1 (some i_a1) none none s_a0 fun v1 =>
 lnS v_a2 fun v2 =>
 bn .eql v2 (Value.int IntKind.i64 0) fun v3 =>
 cn v3
 (R s_a0)
 (lnS s_a0 fun v4 =>
 bn .eql i_a1 v4 fun v5 =>
 cn v5
 (apd [Value.pointer none] 8 399 s_a0 v_a2 fun v6 =>
  R v6)
 (bn .add v4 v2 fun v7 =>
 pp Tryz.prog (Builtin.cap_ #[401] 3 #[s_a0]) fun v8 =>
 bn .gtr v7 v8 fun v9 =>
 cn v9
 (slc 1 none (some i_a1) none s_a0 fun v10 =>
  bn .add v4 v2 fun v11 =>
  bn .sub v11 i_a1 fun v12 =>
  ru Tryz.prog (Builtin.append_ #[401, 3] 401 #[v10, v12]) fun v13 =>
  slc 1 (some i_a1) none none v13 fun v14 =>
  ru Tryz.prog (Builtin.copy_ #[401, 401] 3 #[v14, v_a2]) fun v15 =>
  bn .add i_a1 v2 fun v16 =>
  slc 1 (some v16) none none v13 fun v17 =>
  slc 1 (some i_a1) none none s_a0 fun v18 =>
  ru Tryz.prog (Builtin.copy_ #[401, 401] 3 #[v17, v18]) fun v19 =>
  R v13)
 (bn .add v4 v2 fun v20 =>
 slc 1 none (some v20) none s_a0 fun v21 =>
 bn .add i_a1 v2 fun v22 =>
 slc 1 (some v22) none none v21 fun v23 =>
 cl Tryz.prog 451 [v_a2, v23] fun v24 =>
 un .not v24 fun v25 =>
 cn v25
 (bn .add i_a1 v2 fun v26 =>
  slc 1 (some v26) none none v21 fun v27 =>
  slc 1 (some i_a1) none none v21 fun v28 =>
  ru Tryz.prog (Builtin.copy_ #[401, 401] 3 #[v27, v28]) fun v29 =>
  slc 1 (some i_a1) none none v21 fun v30 =>
  ru Tryz.prog (Builtin.copy_ #[401, 401] 3 #[v30, v_a2]) fun v31 =>
  R v21)
 (slc 1 (some v4) none none v21 fun v32 =>
 ru Tryz.prog (Builtin.copy_ #[401, 401] 3 #[v32, v_a2]) fun v33 =>
 slc 1 (some i_a1) none none v21 fun v34 =>
 cl Tryz.prog 452 [v34, v2] fun v35 =>
 R v21))))
theorem e425 (s_a0 i_a1 v_a2 : Value) (R : Value → A) : C425 s_a0 i_a1 v_a2 R = W Tryz.prog an425 (bodyOf Tryz.f425) (topQ Tryz.prog Tryz.f425.results R) (ini [s_a0, i_a1, v_a2]) := by kernel_rfl
theorem c425 {s_a0 i_a1 v_a2 : Value} {R : Value → A} {h : Hp} (H : C425 s_a0 i_a1 v_a2 R h) : FnW Tryz.prog 425 #[s_a0, i_a1, v_a2] R h :=
  fn_sound mixed (an := an425) Tryz.func425 (c := bodyOf Tryz.f425) (by kernel_rfl) (by kernel_rfl) (by kernel_rfl) (by rw [← e425]; exact H)
theorem b425 : ∃ fn, Tryz.prog.funcs[425]? = some fn ∧ fn.body.isSome = true ∧ (fn.name == "runtime.NumGoroutine") = false := ⟨_, Tryz.func425, by kernel_rfl, by kernel_rfl⟩

/- slices.Clone[[]argosy/btree.item[string, argosy/api.Record],argosy/btree.item[string, argosy/api.Record]] -/
def an426 : Ann := { loops := [], seqs := [], blks := [], plans := [] }
def C426 (s_a0 : Value) (R : Value → A) : A :=
 be Tryz.prog 400 false s_a0 (Value.slice none 0 0) fun v1 =>
 cn v1
 (R (Value.slice none 0 0))
 (bsl [Value.string { data := #[] }, Value.bool false, Value.slice none 0 0, Value.int IntKind.i64 0, Value.int IntKind.u64 0] 506 0 [] fun v2 =>
 apd [Value.string { data := #[] }, Value.bool false, Value.slice none 0 0, Value.int IntKind.i64 0, Value.int IntKind.u64 0] 64 506 v2 s_a0 fun v3 =>
 R v3)
theorem e426 (s_a0 : Value) (R : Value → A) : C426 s_a0 R = W Tryz.prog an426 (bodyOf Tryz.f426) (topQ Tryz.prog Tryz.f426.results R) (ini [s_a0]) := by kernel_rfl
theorem c426 {s_a0 : Value} {R : Value → A} {h : Hp} (H : C426 s_a0 R h) : FnW Tryz.prog 426 #[s_a0] R h :=
  fn_sound mixed (an := an426) Tryz.func426 (c := bodyOf Tryz.f426) (by kernel_rfl) (by kernel_rfl) (by kernel_rfl) (by rw [← e426]; exact H)
theorem b426 : ∃ fn, Tryz.prog.funcs[426]? = some fn ∧ fn.body.isSome = true ∧ (fn.name == "runtime.NumGoroutine") = false := ⟨_, Tryz.func426, by kernel_rfl, by kernel_rfl⟩

/- slices.Clone[[]*argosy/btree.node[string, argosy/api.Record],*argosy/btree.node[string, argosy/api.Record]] -/
def an427 : Ann := { loops := [], seqs := [], blks := [], plans := [] }
def C427 (s_a0 : Value) (R : Value → A) : A :=
 be Tryz.prog 401 false s_a0 (Value.slice none 0 0) fun v1 =>
 cn v1
 (R (Value.slice none 0 0))
 (bsl [Value.pointer none] 399 0 [] fun v2 =>
 apd [Value.pointer none] 8 399 v2 s_a0 fun v3 =>
 R v3)
theorem e427 (s_a0 : Value) (R : Value → A) : C427 s_a0 R = W Tryz.prog an427 (bodyOf Tryz.f427) (topQ Tryz.prog Tryz.f427.results R) (ini [s_a0]) := by kernel_rfl
theorem c427 {s_a0 : Value} {R : Value → A} {h : Hp} (H : C427 s_a0 R h) : FnW Tryz.prog 427 #[s_a0] R h :=
  fn_sound mixed (an := an427) Tryz.func427 (c := bodyOf Tryz.f427) (by kernel_rfl) (by kernel_rfl) (by kernel_rfl) (by rw [← e427]; exact H)
theorem b427 : ∃ fn, Tryz.prog.funcs[427]? = some fn ∧ fn.body.isSome = true ∧ (fn.name == "runtime.NumGoroutine") = false := ⟨_, Tryz.func427, by kernel_rfl, by kernel_rfl⟩

/- cmp.isNaN[string] -/
def an431 : Ann := { loops := [], seqs := [], blks := [], plans := [] }
def C431 (x_a0 : Value) (R : Value → A) : A :=
 bn .neq x_a0 x_a0 fun v1 =>
 R v1
theorem e431 (x_a0 : Value) (R : Value → A) : C431 x_a0 R = W Tryz.prog an431 (bodyOf Tryz.f431) (topQ Tryz.prog Tryz.f431.results R) (ini [x_a0]) := by kernel_rfl
theorem c431 {x_a0 : Value} {R : Value → A} {h : Hp} (H : C431 x_a0 R h) : FnW Tryz.prog 431 #[x_a0] R h :=
  fn_sound mixed (an := an431) Tryz.func431 (c := bodyOf Tryz.f431) (by kernel_rfl) (by kernel_rfl) (by kernel_rfl) (by rw [← e431]; exact H)
theorem b431 : ∃ fn, Tryz.prog.funcs[431]? = some fn ∧ fn.body.isSome = true ∧ (fn.name == "runtime.NumGoroutine") = false := ⟨_, Tryz.func431, by kernel_rfl, by kernel_rfl⟩

/- slices.Delete[[]*argosy/btree.node[string, argosy/api.Record],*argosy/btree.node[string, argosy/api.Record]] -/
def an448 : Ann := { loops := [], seqs := [], blks := [], plans := [(5, (.fl 0 (.fl 1 (.fl 2 (.fl 3 (.fl 4 (.fl 5 (.mu 6 [] (.mu 7 [] (.nil)))))))), [[], [], [0, 1], [], [], [3, 4], [0, 1, 2, 3, 4, 5], [0, 1, 2, 3, 4, 5, 6]]))] }
def C448 (s_a0 i_a1 j_a2 : Value) (R : Value → A) : A :=
 lnS s_a0 fun v1 =>
 slc 1 (some i_a1) (some j_a2) (some v1) s_a0 fun v2 =>
 bn .eql i_a1 j_a2 fun v3 =>
 cn v3
 (R s_a0)
 (lnS s_a0 fun v4 =>
 slc 1 none (some i_a1) none s_a0 fun v5 =>
 slc 1 (some j_a2) none none s_a0 fun v6 =>
 apd [Value.pointer none] 8 399 v5 v6 fun v7 =>
 lnS v7 fun v8 =>
 slc 1 (some v8) (some v4) none v7 fun v9 =>
 ru Tryz.prog (Builtin.clear_ #[401] 0 #[v9]) fun v10 =>
 R v7)
theorem e448 (s_a0 i_a1 j_a2 : Value) (R : Value → A) : C448 s_a0 i_a1 j_a2 R = W Tryz.prog an448 (bodyOf Tryz.f448) (topQ Tryz.prog Tryz.f448.results R) (ini [s_a0, i_a1, j_a2]) := by kernel_rfl
theorem c448 {s_a0 i_a1 j_a2 : Value} {R : Value → A} {h : Hp} (H : C448 s_a0 i_a1 j_a2 R h) : FnW Tryz.prog 448 #[s_a0, i_a1, j_a2] R h :=
  fn_sound mixed (an := an448) Tryz.func448 (c := bodyOf Tryz.f448) (by kernel_rfl) (by kernel_rfl) (by kernel_rfl) (by rw [← e448]; exact H)
theorem b448 : ∃ fn, Tryz.prog.funcs[448]? = some fn ∧ fn.body.isSome = true ∧ (fn.name == "runtime.NumGoroutine") = false := ⟨_, Tryz.func448, by kernel_rfl, by kernel_rfl⟩

-- NOT 449
/- slices.rotateRight[argosy/btree.item[string, argosy/api.Record]] -/
def an450 : Ann := { loops := [], seqs := [], blks := [], plans := [] }
def C450 (s_a0 r_a1 : Value) (R : Value → A) : A :=
 lnS s_a0 fun v1 =>
 bn .sub v1 r_a1 fun v2 =>
 cl Tryz.prog 461 [s_a0, v2] fun v3 =>
 R (Value.tuple #[])
theorem e450 (s_a0 r_a1 : Value) (R : Value → A) : C450 s_a0 r_a1 R = W Tryz.prog an450 (bodyOf Tryz.f450) (topQ Tryz.prog Tryz.f450.results R) (ini [s_a0, r_a1]) := by kernel_rfl
theorem c450 {s_a0 r_a1 : Value} {R : Value → A} {h : Hp} (H : C450 s_a0 r_a1 R h) : FnW Tryz.prog 450 #[s_a0, r_a1] R h :=
  fn_sound mixed (an := an450) Tryz.func450 (c := bodyOf Tryz.f450) (by kernel_rfl) (by kernel_rfl) (by kernel_rfl) (by rw [← e450]; exact H)
theorem b450 : ∃ fn, Tryz.prog.funcs[450]? = some fn ∧ fn.body.isSome = true ∧ (fn.name == "runtime.NumGoroutine") = false := ⟨_, Tryz.func450, by kernel_rfl, by kernel_rfl⟩

-- NOT 451
/- slices.rotateRight[*argosy/btree.node[string, argosy/api.Record]] -/
def an452 : Ann := { loops := [], seqs := [], blks := [], plans := [] }
def C452 (s_a0 r_a1 : Value) (R : Value → A) : A :=
 lnS s_a0 fun v1 =>
 bn .sub v1 r_a1 fun v2 =>
 cl Tryz.prog 462 [s_a0, v2] fun v3 =>
 R (Value.tuple #[])
theorem e452 (s_a0 r_a1 : Value) (R : Value → A) : C452 s_a0 r_a1 R = W Tryz.prog an452 (bodyOf Tryz.f452) (topQ Tryz.prog Tryz.f452.results R) (ini [s_a0, r_a1]) := by kernel_rfl
theorem c452 {s_a0 r_a1 : Value} {R : Value → A} {h : Hp} (H : C452 s_a0 r_a1 R h) : FnW Tryz.prog 452 #[s_a0, r_a1] R h :=
  fn_sound mixed (an := an452) Tryz.func452 (c := bodyOf Tryz.f452) (by kernel_rfl) (by kernel_rfl) (by kernel_rfl) (by rw [← e452]; exact H)
theorem b452 : ∃ fn, Tryz.prog.funcs[452]? = some fn ∧ fn.body.isSome = true ∧ (fn.name == "runtime.NumGoroutine") = false := ⟨_, Tryz.func452, by kernel_rfl, by kernel_rfl⟩

/- slices.rotateLeft[argosy/btree.item[string, argosy/api.Record]] -/
def an461 : Ann := { loops := [], seqs := [], blks := [], plans := [] }
def C461 (s_a0 r_a1 : Value) (R : Value → A) : A :=
 slc 5 none (some r_a1) none s_a0 fun v1 =>
 cl Tryz.prog 466 [v1] fun v2 =>
 slc 5 (some r_a1) none none s_a0 fun v3 =>
 cl Tryz.prog 466 [v3] fun v4 =>
 cl Tryz.prog 466 [s_a0] fun v5 =>
 R (Value.tuple #[])
theorem e461 (s_a0 r_a1 : Value) (R : Value → A) : C461 s_a0 r_a1 R = W Tryz.prog an461 (bodyOf Tryz.f461) (topQ Tryz.prog Tryz.f461.results R) (ini [s_a0, r_a1]) := by kernel_rfl
theorem c461 {s_a0 r_a1 : Value} {R : Value → A} {h : Hp} (H : C461 s_a0 r_a1 R h) : FnW Tryz.prog 461 #[s_a0, r_a1] R h :=
  fn_sound mixed (an := an461) Tryz.func461 (c := bodyOf Tryz.f461) (by kernel_rfl) (by kernel_rfl) (by kernel_rfl) (by rw [← e461]; exact H)
theorem b461 : ∃ fn, Tryz.prog.funcs[461]? = some fn ∧ fn.body.isSome = true ∧ (fn.name == "runtime.NumGoroutine") = false := ⟨_, Tryz.func461, by kernel_rfl, by kernel_rfl⟩

/- slices.rotateLeft[*argosy/btree.node[string, argosy/api.Record]] -/
def an462 : Ann := { loops := [], seqs := [], blks := [], plans := [] }
def C462 (s_a0 r_a1 : Value) (R : Value → A) : A :=
 slc 1 none (some r_a1) none s_a0 fun v1 =>
 cl Tryz.prog 467 [v1] fun v2 =>
 slc 1 (some r_a1) none none s_a0 fun v3 =>
 cl Tryz.prog 467 [v3] fun v4 =>
 cl Tryz.prog 467 [s_a0] fun v5 =>
 R (Value.tuple #[])
theorem e462 (s_a0 r_a1 : Value) (R : Value → A) : C462 s_a0 r_a1 R = W Tryz.prog an462 (bodyOf Tryz.f462) (topQ Tryz.prog Tryz.f462.results R) (ini [s_a0, r_a1]) := by kernel_rfl
theorem c462 {s_a0 r_a1 : Value} {R : Value → A} {h : Hp} (H : C462 s_a0 r_a1 R h) : FnW Tryz.prog 462 #[s_a0, r_a1] R h :=
  fn_sound mixed (an := an462) Tryz.func462 (c := bodyOf Tryz.f462) (by kernel_rfl) (by kernel_rfl) (by kernel_rfl) (by rw [← e462]; exact H)
theorem b462 : ∃ fn, Tryz.prog.funcs[462]? = some fn ∧ fn.body.isSome = true ∧ (fn.name == "runtime.NumGoroutine") = false := ⟨_, Tryz.func462, by kernel_rfl, by kernel_rfl⟩

/- slices.Reverse[[]argosy/btree.item[string, argosy/api.Record],argosy/btree.item[string, argosy/api.Record]] -/
def an466 : Ann := { loops := [(1, [2, 3], [(2, 3), (7, 27)])], seqs := [], blks := [], plans := [(3, (.fl 0 (.fl 1 (.fl 2 (.fl 3 (.fl 4 (.fl 5 (.fl 6 (.fl 7 (.fl 8 (.fl 9 (.fl 10 (.fl 11 (.fl 12 (.mu 13 [] (.fl 14 (.mu 15 [] (.nil)))))))))))))))), [[], [], [], [], [], [], [4, 5], [4, 5, 6], [], [], [8, 9], [8, 9, 10], [0, 1, 4, 5, 6, 7, 8, 9, 10, 11], [0, 1, 4, 5, 6, 7, 8, 9, 10, 11, 12], [0, 1, 2, 3, 4, 5, 6, 7, 8, 9, 10, 11, 12, 13], [0, 1, 2, 3, 4, 5, 6, 7, 8, 9, 10, 11, 12, 13, 14]]))] }
def C466 (s_a0 : Value) (R : Value → A) : A :=
 lnS s_a0 fun v1 =>
 bn .sub v1 (Value.int IntKind.i64 1) fun v2 =>
 lp 2 (fun _ nx3 i_4 j_5 =>
 bn .lss i_4 j_5 fun v6 =>
  cn v6
  (ixs 5 s_a0 j_5 fun v7 =>
  ldn 5 v7 fun v8 =>
  ixs 5 s_a0 i_4 fun v9 =>
  ldn 5 v9 fun v10 =>
  ixs 5 s_a0 i_4 fun v11 =>
  st 5 v11 v8 <|
  ixs 5 s_a0 j_5 fun v12 =>
  st 5 v12 v10 <|
  bn .add i_4 (Value.int IntKind.i64 1) fun v13 =>
  bn .sub j_5 (Value.int IntKind.i64 1) fun v14 =>
  nx3 v13 v14)
  (R (Value.tuple #[]))) [Value.int IntKind.i64 0, v2]
theorem e466 (s_a0 : Value) (R : Value → A) : C466 s_a0 R = W Tryz.prog an466 (bodyOf Tryz.f466) (topQ Tryz.prog Tryz.f466.results R) (ini [s_a0]) := by kernel_rfl
theorem c466 {s_a0 : Value} {R : Value → A} {h : Hp} (H : C466 s_a0 R h) : FnW Tryz.prog 466 #[s_a0] R h :=
  fn_sound mixed (an := an466) Tryz.func466 (c := bodyOf Tryz.f466) (by kernel_rfl) (by kernel_rfl) (by kernel_rfl) (by rw [← e466]; exact H)
theorem b466 : ∃ fn, Tryz.prog.funcs[466]? = some fn ∧ fn.body.isSome = true ∧ (fn.name == "runtime.NumGoroutine") = false := ⟨_, Tryz.func466, by kernel_rfl, by kernel_rfl⟩

/- slices.Reverse[[]*argosy/btree.node[string, argosy/api.Record],*argosy/btree.node[string, argosy/api.Record]] -/
def an467 : Ann := { loops := [(1, [2, 3], [(2, 3), (7, 27)])], seqs := [], blks := [], plans := [(3, (.fl 0 (.fl 1 (.fl 2 (.fl 3 (.fl 4 (.fl 5 (.fl 6 (.fl 7 (.fl 8 (.fl 9 (.fl 10 (.fl 11 (.fl 12 (.mu 13 [] (.fl 14 (.mu 15 [] (.nil)))))))))))))))), [[], [], [], [], [], [], [4, 5], [4, 5, 6], [], [], [8, 9], [8, 9, 10], [0, 1, 4, 5, 6, 7, 8, 9, 10, 11], [0, 1, 4, 5, 6, 7, 8, 9, 10, 11, 12], [0, 1, 2, 3, 4, 5, 6, 7, 8, 9, 10, 11, 12, 13], [0, 1, 2, 3, 4, 5, 6, 7, 8, 9, 10, 11, 12, 13, 14]]))] }
def C467 (s_a0 : Value) (R : Value → A) : A :=
 lnS s_a0 fun v1 =>
 bn .sub v1 (Value.int IntKind.i64 1) fun v2 =>
 lp 2 (fun _ nx3 i_4 j_5 =>
 bn .lss i_4 j_5 fun v6 =>
  cn v6
  (ixs 1 s_a0 j_5 fun v7 =>
  ld1 v7 fun v8 =>
  ixs 1 s_a0 i_4 fun v9 =>
  ld1 v9 fun v10 =>
  ixs 1 s_a0 i_4 fun v11 =>
  st 1 v11 v8 <|
  ixs 1 s_a0 j_5 fun v12 =>
  st 1 v12 v10 <|
  bn .add i_4 (Value.int IntKind.i64 1) fun v13 =>
  bn .sub j_5 (Value.int IntKind.i64 1) fun v14 =>
  nx3 v13 v14)
  (R (Value.tuple #[]))) [Value.int IntKind.i64 0, v2]
theorem e467 (s_a0 : Value) (R : Value → A) : C467 s_a0 R = W Tryz.prog an467 (bodyOf Tryz.f467) (topQ Tryz.prog Tryz.f467.results R) (ini [s_a0]) := by kernel_rfl
theorem c467 {s_a0 : Value} {R : Value → A} {h : Hp} (H : C467 s_a0 R h) : FnW Tryz.prog 467 #[s_a0] R h :=
  fn_sound mixed (an := an467) Tryz.func467 (c := bodyOf Tryz.f467) (by kernel_rfl) (by kernel_rfl) (by kernel_rfl) (by rw [← e467]; exact H)
theorem b467 : ∃ fn, Tryz.prog.funcs[467]? = some fn ∧ fn.body.isSome = true ∧ (fn.name == "runtime.NumGoroutine") = false := ⟨_, Tryz.func467, by kernel_rfl, by kernel_rfl⟩

end Go.Proofs.YtalknmdbamlabaaGreat.Q
