/- The statement LocksLeave holds: one that leaves waits for nothing, and nobody waits for it. Conditions: none. -/
import Derived.Test.YtalknmdbamlabaaGreatF0
import Derived.Test.YtalknmdbamlabaaGreatP27
import Derived.Test.YtalknmdbamlabaaGreatP28
namespace Go.Proofs.YtalknmdbamlabaaGreat.Q
open Go Go.ChangeShapes
theorem one_of {v : Value} (h : oneC v = true) : ∀ u ∈ [v], oneC u = true := by simpa using h
abbrev QI (k : IntKind) (_ : World) (cs : List Value) : Prop := ∃ n, cs = [.int k n] ∧ (Lit.int k n).wf = true
abbrev QS (_ : World) (cs : List Value) : Prop := ∃ s : ByteArray, cs = [.string s] ∧ s.size ≤ maxLen
theorem opn164 : Opn Tryz.prog 164 fun _ cs => ∃ m : Mk, cs = Mk.c m := by
  refine opn_imp (opn_struct (n := 3) Tryz.underlying164 (by kernel_rfl) [(0, 1, QS), (1, 1, QI .i64), (2, 1, QI .u64)] ⟨⟨rfl, by kernel_rfl, opn_str Tryz.underlying9⟩, ⟨rfl, by kernel_rfl, opn_int Tryz.underlying3⟩, ⟨rfl, by kernel_rfl, opn_int Tryz.underlying23⟩, trivial⟩) ?_
  rintro W cs ⟨hl, hq⟩
  match cs, hl with
  | [a, b, c], _ =>
    simp only [List.forall_mem_cons] at hq
    obtain ⟨⟨s, h1, _⟩, ⟨n, h2, _⟩, ⟨m, h3, _⟩, _⟩ := hq
    simp at h1 h2 h3
    subst h1; subst h2; subst h3
    exact ⟨(s, n, m), rfl⟩
theorem opn43 : Opn Tryz.prog 43 fun W cs => ∃ s es, cs = [s] ∧ Sr W.heap 3 s es ∧ (∀ x ∈ es, ∃ m : Mk, x = Mk.c m) ∧ es.length ≤ maxLen :=
  opn_slice Tryz.underlying43 (by kernel_rfl) (by decide) opn164 fun W cs ⟨m, e⟩ => by rw [e]; exact Mk.one m
theorem opn25 : Opn Tryz.prog 25 fun _ cs => ∃ a b c, cs = [vi a, vu b, vu c] := by
  refine opn_imp (opn_struct (n := 3) Tryz.underlying25 (by kernel_rfl) [(0, 1, QI .i64), (1, 1, QI .u64), (2, 1, QI .u64)] ⟨⟨rfl, by kernel_rfl, opn_int Tryz.underlying3⟩, ⟨rfl, by kernel_rfl, opn_int Tryz.underlying23⟩, ⟨rfl, by kernel_rfl, opn_int Tryz.underlying23⟩, trivial⟩) ?_
  rintro W cs ⟨hl, hq⟩
  match cs, hl with
  | [a, b, c], _ =>
    simp only [List.forall_mem_cons] at hq
    obtain ⟨⟨s, h1, _⟩, ⟨n, h2, _⟩, ⟨m, h3, _⟩, _⟩ := hq
    simp at h1 h2 h3
    subst h1; subst h2; subst h3
    exact ⟨s, n, m, rfl⟩
theorem opn27 : Opn Tryz.prog 27 fun _ cs => ∃ t : Tg, cs = Tg.c t := by
  refine opn_imp (opn_struct (n := 4) Tryz.underlying27 (by kernel_rfl) [(0, 3, fun _ cs => ∃ a b c, cs = [vi a, vu b, vu c]), (3, 1, QI .i64)] ⟨⟨rfl, by kernel_rfl, opn25⟩, ⟨rfl, by kernel_rfl, opn_int Tryz.underlying3⟩, trivial⟩) ?_
  rintro W cs ⟨hl, hq⟩
  match cs, hl with
  | [a, b, c, d], _ =>
    simp only [List.forall_mem_cons] at hq
    obtain ⟨⟨x, y, z, h1⟩, ⟨n, h2, _⟩, _⟩ := hq
    simp at h1 h2
    obtain ⟨rfl, rfl, rfl⟩ := h1
    subst h2
    exact ⟨(x, y, z, n), rfl⟩
theorem opn45 : Opn Tryz.prog 45 fun W cs => ∃ o : OpS, cs = o.c ∧ Sr W.heap 3 o.sl (o.marks.map Mk.c) ∧ o.marks.length ≤ maxLen := by
  refine opn_imp (opn_struct (n := 8) Tryz.underlying45 (by kernel_rfl) [(0, 1, QI .i64), (1, 1, QI .i64), (2, 4, fun _ cs => ∃ t : Tg, cs = Tg.c t), (6, 1, QS), (7, 1, fun W cs => ∃ s es, cs = [s] ∧ Sr W.heap 3 s es ∧ (∀ x ∈ es, ∃ m : Mk, x = Mk.c m) ∧ es.length ≤ maxLen)]
    ⟨⟨rfl, by kernel_rfl, opn_int Tryz.underlying3⟩, ⟨rfl, by kernel_rfl, opn_int Tryz.underlying3⟩, ⟨rfl, by kernel_rfl, opn27⟩, ⟨rfl, by kernel_rfl, opn_str Tryz.underlying9⟩, ⟨rfl, by kernel_rfl, opn43⟩, trivial⟩) ?_
  rintro W cs ⟨hl, hq⟩
  match cs, hl with
  | [a, b, c, d, e, f, g, k], _ =>
    simp only [List.forall_mem_cons] at hq
    obtain ⟨⟨n1, h1, _⟩, ⟨n2, h2, _⟩, ⟨t, h3⟩, ⟨s, h4, _⟩, ⟨sl, es, h5, h6, h7, h8⟩, _⟩ := hq
    obtain ⟨l, rfl, _⟩ := choose_list (c := Mk.c) (ok := fun _ => True) (es := es) fun x hx => by obtain ⟨m, e⟩ := h7 x hx; exact ⟨m, e, trivial⟩
    simp [Tg.c] at h1 h2 h3 h4 h5
    obtain ⟨rfl, rfl, rfl, rfl⟩ := h3
    subst h1; subst h2; subst h4; subst h5
    exact ⟨⟨n1, n2, t, s, _, l⟩, rfl, h6, by simpa using h8⟩
theorem opn22 : Opn Tryz.prog 22 fun W cs => ∃ s l, cs = [s] ∧ Scr W.heap s l ∧ l.length ≤ maxLen ∧ ∀ o ∈ l, o.marks.length ≤ maxLen := by
  refine opn_imp (opn_slice (z := 8) Tryz.underlying22 (by kernel_rfl) (by decide) opn45 fun W cs ⟨o, e, h, _⟩ => by rw [e]; exact OpS.one h.one) ?_
  rintro W cs ⟨s, es, rfl, h1, h2, h3⟩
  obtain ⟨l, rfl, h4⟩ := choose_list (c := OpS.c) (ok := fun o => Sr W.heap 3 o.sl (o.marks.map Mk.c) ∧ o.marks.length ≤ maxLen) h2
  exact ⟨s, l, rfl, ⟨h1, fun o ho => (h4 o ho).1⟩, by simpa using h3, fun o ho => (h4 o ho).2⟩
end Go.Proofs.YtalknmdbamlabaaGreat.Q
namespace Go.Proofs.YtalknmdbamlabaaGreat.locksLeave
open Go Go.ChangeShapes Go.WideShapes Go.ChangeAt Go.RowKit Q
theorem z_wf : Rows.locksLeaveRow.wf (OpenSpec.ofChange Rows.locksLeaveSpec) = true := by kernel_rfl
theorem z_params : (Tryz.f3.params.all (Tryz.prog.readableRec ·)) = true := by kernel_rfl
theorem z_inPlace : (Rows.locksLeaveRow.inPlace == Tryz.prog.inPlace 3) = true := by kernel_rfl
theorem z_unfollowed : (Rows.locksLeaveRow.unfollowed == Tryz.prog.unfollowed 3) = true := by kernel_rfl
theorem z_recurses : (Rows.locksLeaveRow.recurses == Tryz.prog.recurses 3) = true := by kernel_rfl
theorem z_named : (Rows.locksLeaveRow.named == Tryz.prog.varsNamed 3) = true := by kernel_rfl
theorem z_maps : (Rows.locksLeaveRow.maps == (Tryz.f3.params.toList ++ Rows.locksLeaveSpec.plain.varTypes Tryz.prog).any (Tryz.prog.mapsRec ·)) = true := by kernel_rfl
theorem z_ifaces : (Rows.locksLeaveRow.ifaces == (Tryz.f3.params.toList ++ Rows.locksLeaveSpec.plain.varTypes Tryz.prog).any (Tryz.prog.ifacesRec ·)) = true := by kernel_rfl
theorem z_loops : (Rows.locksLeaveRow.loops == (Tryz.f3.params.toList ++ Rows.locksLeaveSpec.plain.varTypes Tryz.prog).any (Tryz.prog.loopsFrom ·)) = true := by kernel_rfl
theorem z_wideKeys : (Rows.locksLeaveRow.wideKeys == (Tryz.f3.params.toList ++ Rows.locksLeaveSpec.plain.varTypes Tryz.prog ++ Tryz.f3.resultTypes.toList).any (Tryz.prog.wideKeysFrom ·)) = true := by kernel_rfl
theorem z_veiled : (Rows.locksLeaveRow.veiled == (Tryz.f3.params.toList ++ Rows.locksLeaveSpec.plain.varTypes Tryz.prog ++ Tryz.f3.resultTypes.toList).any (Tryz.prog.veiledRec ·)) = true := by kernel_rfl
theorem closed : joinedFacts Tryz.prog 3 Tryz.f3 Rows.locksLeaveSpec Rows.locksLeaveRow = true := by
  unfold joinedFacts
  exact a2 (a2 (a2 (a2 (a2 (a2 (a2 (a2 (a2 (a2 (a2 (a2 (a2 (a2 (a2 (a2 (a2 (a2 (a2 (a2 (a2 (a2 (a2 (a2 (a2 (a2 (a2 (a2 (a2 (a2 (a2 z_wf f_laid) f_maps) z_params) (by kernel_rfl)) (by kernel_rfl)) f_stops) (by kernel_rfl)) f_knobs) z_inPlace) z_unfollowed) z_recurses) z_named) z_maps) z_ifaces) (by kernel_rfl)) z_loops) z_wideKeys) (by kernel_rfl)) (by kernel_rfl)) (by kernel_rfl)) (by kernel_rfl)) f_plain) (by kernel_rfl)) f_heard) f_enter) f_lifts) f_make) (by kernel_rfl)) (by kernel_rfl)) z_veiled) (by kernel_rfl)
theorem hnamed : Tryz.prog.funcNamed "argosy/argosylaw16.LocksLeave" = some 3 := by kernel_rfl
theorem hinst : Tryz.f3.isInstance Tryz.prog Rows.locksLeaveRow.origin Rows.locksLeaveRow.targs := of_decide_eq_true (by kernel_rfl)
theorem hwrap : Tryz.f3.isWrapper Tryz.prog Rows.locksLeaveRow.wrapper Rows.locksLeaveRow.mainSum := by unfold Func.isWrapper; first | (rw [if_pos (by decide +kernel)]; kernel_rfl) | (rw [if_neg (by decide +kernel)]; exact ⟨rfl, rfl⟩)
set_option maxRecDepth 100000 in
theorem lifted (os : Os) (started : os.Started) (H : Type) (enc : TypeId × Value → H) :
    ReturnsInHanded {} Tryz.checked os 3 .any (Rows.locksLeaveSpec.pre6 enc Tryz.prog Tryz.f3 Rows.locksLeaveRow.domain false) (Rows.locksLeaveSpec.post enc Tryz.prog Tryz.f3 false true false false) := by
  refine returnsInHanded_of_change_sized (C := Tryz.checked) own started (by kernel_rfl) Tryz.func3
    (ChangeSpec.witness6 (enc := enc) (C := Tryz.checked) false ⟨#[], #[.slice none 0 0, .agg #[.int .i64 0, .int .u64 0, .int .u64 0, .int .i64 0]], []⟩ 8 (by kernel_rfl) (by kernel_rfl) (by kernel_rfl) (by kernel_rfl)) ?_
  intro W base args ds gs before hval0 hW hcnd hsz0 _
  have hval : ∀ (j : Nat) t v, Tryz.f3.params[j]? = some t → args[j]? = some v → Value.okWide Tryz.prog W .any base t v := hval0
  have hW' := hW
  obtain ⟨p, q, hA0, hV, rfl, hfz, hnd⟩ := hW
  have hA : DataW.TrodAll enc Tryz.prog W 0 (fun _ => true) true Tryz.f3.params.toList args.toList ds p := hA0
  rw [Tryz.params3] at hA hval
  obtain ⟨v0, vs0, d0, ds0, p0, q0, hargs, rfl, rfl, h0, r0⟩ := trodAll_cons hA
  obtain ⟨v1, vs1, d1, ds1, p1, q1, rfl, rfl, rfl, h1, r1⟩ := trodAll_cons r0
  obtain ⟨rfl, rfl, rfl⟩ := trodAll_nil r1
  obtain rfl : args = #[v0, v1] := by cases args; simp_all
  obtain ⟨rfl, rfl⟩ := trodVars_none hV
  obtain ⟨a0, len0, cap0, rfl⟩ := okWide_slice Tryz.underlying22 (hval 0 22 v0 rfl rfl)
  have k0 := h0
  have k1 := h1
  have lt0 : ∀ x ∈ p0, x.block < W.heap.size := by obtain ⟨m, hm⟩ := k0; exact DataW.trod_lt m _ _ _ hm
  have lt1 : ∀ x ∈ p1, x.block < W.heap.size := by obtain ⟨m, hm⟩ := k1; exact DataW.trod_lt m _ _ _ hm
  obtain ⟨f0, g0⟩ := h0
  obtain ⟨s, l, es, hS, hl, hm⟩ := opn22.out g0
  simp only [Value.cells] at es
  obtain ⟨cs, rfl, hcsz, _⟩ : ∃ cs, v1 = .agg cs ∧ cs.size = Tryz.prog.cellsOf 27 ∧ Row.okWide Tryz.prog W .any base 27 cs := by
    have := hval 1 27 v1 rfl rfl
    simp only [Value.okWide, Tryz.underlying27] at this
    exact this
  obtain ⟨f1, g1⟩ := h1
  obtain ⟨t, et⟩ := opn27.out g1
  have ec : cs = (Tg.c t).toArray := by
    have : cs.toList = Tg.c t := et
    rw [← this]
  subst ec
  have es' : Value.slice a0 len0 cap0 = s := by simpa using es
  subst es'
  have hc := s3 (gone := t) hS W rfl
  refine hc.mono ?_
  rintro e W' ⟨v, rfl, ⟨rfl, hh⟩, hk⟩
  obtain ⟨hsz, hsame⟩ := hh.same
  have bel : Below W.heap.size W W' := ⟨hk.2.1, hk.2.2.2, hk.2.2.1, hsz, hsame⟩
  exact ⟨_, rfl, _, _, _, [], _, [], hW', trodAll_mk1 (shut_bool Tryz.underlying4 _), (trodAll_cons_mk (Below.trod f_laid (by kernel_rfl) (of_decide_eq_true (by kernel_rfl)) k0 bel lt0) (trodAll_cons_mk (Below.trod f_laid (by kernel_rfl) (of_decide_eq_true (by kernel_rfl)) k1 bel lt1) trodAll_mk0)), rfl, bel.frame _, fun h => by cases h⟩
theorem over : Rows.locksLeaveRow.holds Tryz.pinned (OpenSpec.ofChange Rows.locksLeaveSpec) :=
  OpenClaim.holds_of_wide 3 Tryz.f3 rfl rfl rfl rfl rfl rfl rfl ⟨rfl, rfl, rfl, rfl, rfl⟩ rfl rfl rfl rfl rfl hnamed Tryz.func3 closed hinst hwrap (fun os started H enc _ => lifted os started H enc)
theorem proved : Rows.LocksLeaveSaid := over
end Go.Proofs.YtalknmdbamlabaaGreat.locksLeave
namespace Go.Proofs.YtalknmdbamlabaaGreat
/-- The row, under a short name, for the claim. -/
theorem locksLeave_holds : Rows.LocksLeaveSaid := locksLeave.proved
#print axioms locksLeave_holds
end Go.Proofs.YtalknmdbamlabaaGreat
