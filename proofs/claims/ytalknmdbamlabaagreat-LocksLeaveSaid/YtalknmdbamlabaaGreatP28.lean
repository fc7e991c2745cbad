/- Arguments that can be read as data: what lies in memory. Conditions: none. -/
import Derived.Test.YtalknmdbamlabaaGreatP10
import Derived.WalkKit
import Derived.ProofKit
import Derived.OpenShut
import Derived.ShutString
import Derived.ChangeOld
import Derived.Below
import Derived.SizedLaws
namespace Go.Proofs.YtalknmdbamlabaaGreat.Q
open Go Go.ChangeShapes
/-- what a type's data looks like in memory. -/
structure Opn (P : Program) (t : TypeId) (Q : World → List Value → Prop) : Prop where
  out : ∀ {H : Type} {enc : TypeId × Value → H} {W : World} {spare : Nat → Bool} {held : Bool} {fuel : Nat} {cs : List Value} {x : DataW H × List MemPlace}, DataW.trod enc P W 0 spare held fuel t cs = some x → Q W cs
section
variable {P : Program} {t e : TypeId}
theorem opn_int {k : IntKind} (ht : P.underlying t = some (.int k)) : Opn P t fun _ cs => ∃ n, cs = [.int k n] ∧ (Lit.int k n).wf = true := ⟨fun h => by
  obtain ⟨n, h1, _, h2⟩ := DataW.trod_int ht h; exact ⟨n, h1, h2⟩⟩
theorem opn_bool (ht : P.underlying t = some .bool) : Opn P t fun _ cs => ∃ b, cs = [.bool b] := ⟨fun h => by
  obtain ⟨n, h1, _⟩ := DataW.trod_bool ht h; exact ⟨n, h1⟩⟩
theorem opn_str (ht : P.underlying t = some .string) : Opn P t fun _ cs => ∃ s : ByteArray, cs = [.string s] ∧ s.size ≤ maxLen := ⟨fun h => by
  obtain ⟨s, h1, _, h2⟩ := DataW.trod_string ht h; exact ⟨s, h1, h2⟩⟩
def fieldsOk (P : Program) : List Field → List (Nat × Nat × (World → List Value → Prop)) → Prop
  | [], [] => True
  | f :: fs, q :: qs => (f.offset = q.1 ∧ P.cellsOf f.type = q.2.1 ∧ Opn P f.type q.2.2) ∧ fieldsOk P fs qs
  | _, _ => False
theorem fieldsOk_get : ∀ {fs : List Field} {qs : List (Nat × Nat × (World → List Value → Prop))}, fieldsOk P fs qs → ∀ q ∈ qs, ∃ (i : Nat) (f : Field), fs[i]? = some f ∧ f.offset = q.1 ∧ P.cellsOf f.type = q.2.1 ∧ Opn P f.type q.2.2
  | [], [], _, q, hq => by cases hq
  | [], _ :: _, h, _, _ => h.elim
  | _ :: _, [], h, _, _ => h.elim
  | f :: fs, q0 :: qs, h, q, hq => by
    rcases List.mem_cons.1 hq with rfl | hq
    · exact ⟨0, f, rfl, h.1⟩
    · obtain ⟨i, f', h1, h2⟩ := fieldsOk_get h.2 q hq
      exact ⟨i + 1, f', by simpa using h1, h2⟩
theorem opn_struct {fs : Array Field} {n : Nat} (ht : P.underlying t = some (.struct fs)) (hn : P.cellsOf t = n) (Qs : List (Nat × Nat × (World → List Value → Prop))) (hq : fieldsOk P fs.toList Qs) :
    Opn P t fun W cs => cs.length = n ∧ ∀ q ∈ Qs, q.2.2 W ((cs.drop q.1).take q.2.1) := by
  refine ⟨fun h => ?_⟩
  obtain ⟨xs, m, _, _, h1, h2, h3⟩ := DataW.trod_struct ht h
  refine ⟨by rw [h1, hn], fun q hq' => ?_⟩
  obtain ⟨i, f, hi, h4, h5, h6⟩ := fieldsOk_get hq q hq'
  have h7 := h3 i f (by simpa using hi)
  have hif : i < fs.toList.length := by
    rcases Nat.lt_or_ge i fs.toList.length with h | h
    · exact h
    · rw [List.getElem?_eq_none h] at hi; cases hi
  have hx : i < xs.length := by rw [h2]; simpa using hif
  rw [List.getElem?_eq_getElem hx] at h7
  rw [← h4, ← h5]
  exact h6.out h7
theorem mapM_cells {w : World} {a : Addr} : ∀ (n i : Nat) (cs : List Value), ((List.range' i n).mapM fun j => w.cell? (a.add j)) = some cs → cs.length = n ∧ ∀ j, j < n → w.cell? (a.add (i + j)) = cs[j]?
  | 0, i, cs, h => by simp at h; subst h; exact ⟨rfl, fun j hj => by omega⟩
  | n + 1, i, cs, h => by
    rw [List.range'_succ, List.mapM_cons] at h
    simp only [Option.bind_eq_bind, Option.bind_eq_some_iff, Option.pure_def, Option.some.injEq] at h
    obtain ⟨v, hv, vs, hvs, rfl⟩ := h
    obtain ⟨h1, h2⟩ := mapM_cells n (i + 1) vs hvs
    refine ⟨by simp [h1], fun j hj => ?_⟩
    cases j with
    | zero => simpa using hv
    | succ j => rw [show i + (j + 1) = i + 1 + j from by omega, h2 j (by omega)]; rfl
theorem opn_slice {z : Nat} {Q : World → List Value → Prop} (ht : P.underlying t = some (.slice e)) (hz : P.cellsOf e = z) (hz0 : 0 < z) (he : Opn P e Q) (hQ : ∀ W cs, Q W cs → ∀ u ∈ cs, oneC u = true) :
    Opn P t fun W cs => ∃ s es, cs = [s] ∧ Sr W.heap z s es ∧ (∀ x ∈ es, Q W x) ∧ es.length ≤ maxLen := by
  refine ⟨fun {H enc W spare held fuel cs x} h => ?_⟩
  rcases DataW.trod_slice ht h with ⟨rfl, _⟩ | ⟨a, len, cap, elems, rest, n, _, rfl, _, _, hlc, hcm, hlen, hel, _⟩
  · exact ⟨nilS, [], rfl, ⟨none, 0, 0, rfl, rfl, by simp, by simp, fun i hi => by simp at hi⟩, by simp, Nat.zero_le _⟩
  · rw [hz] at hel
    have hrow : ∀ i, i < len → ∃ cs, cs.length = z ∧ Q W cs ∧ ∃ b o, a = ⟨b, o, none⟩ ∧ Rd W.heap b (o + i * z) cs := by
      intro i hi
      have h1 := hel i hi
      rw [List.getElem?_eq_getElem (by omega)] at h1
      obtain ⟨cs, h2, h3⟩ := Option.bind_eq_some_iff.1 h1
      unfold World.cells? at h2
      rw [if_pos (Nat.zero_le _)] at h2
      rw [List.range_eq_range'] at h2
      obtain ⟨h4, h5⟩ := mapM_cells z 0 cs h2
      refine ⟨cs, h4, he.out h3, ?_⟩
      -- the block
      have h6 : ∀ j, j < z → W.cell? ((a.add (i * z)).add j) = cs[j]? := fun j hj => by have := h5 j hj; rwa [Nat.zero_add] at this
      have h7 := h6 0 hz0
      rw [List.getElem?_eq_getElem (by omega)] at h7
      obtain ⟨b, o, sp⟩ := a
      have hsp : ∀ m, ((⟨b, o, sp⟩ : Addr).add m).block = b := fun m => by unfold Addr.add; split <;> rfl
      have hblk : ∃ c e fz, W.heap[b]? = some (.cells c e fz) := by
        unfold World.cell? at h7
        have : (((⟨b, o, sp⟩ : Addr).add (i * z)).add 0).block = b := by
          unfold Addr.add; split <;> (try split) <;> rfl
        rw [this] at h7
        cases hb : W.heap[b]? with
        | none => rw [hb] at h7; cases h7
        | some ob =>
          rw [hb] at h7
          cases ob <;> simp at h7
          exact ⟨_, _, _, rfl⟩
      obtain ⟨c, ee, fz, hb⟩ := hblk
      have hnone : sp = none := by
        cases sp with
        | none => rfl
        | some q =>
          have g1 := hel 0 (by omega)
          rw [List.getElem?_eq_getElem (by omega)] at g1
          obtain ⟨cs0, g2, _⟩ := Option.bind_eq_some_iff.1 g1
          unfold World.cells? at g2
          rw [if_pos (Nat.zero_le _), List.range_eq_range'] at g2
          obtain ⟨g4, g5⟩ := mapM_cells z 0 cs0 g2
          have g6 := g5 0 hz0
          rw [List.getElem?_eq_getElem (by omega)] at g6
          simp only [Nat.zero_mul] at g6
          unfold World.cell? at g6
          have e1 : ((⟨b, o, some q⟩ : Addr).add 0).add (0 + 0) = ⟨b, o, some q⟩ := rfl
          rw [e1] at g6
          simp [hb] at g6
      subst hnone
      refine ⟨b, o, rfl, c.toList, ⟨ee, fz, by simpa using hb⟩, ?_⟩
      have h8 : ∀ j, j < z → c.toList[o + i * z + j]? = cs[j]? := by
        intro j hj
        have := h6 j hj
        rw [add_mk, add_mk] at this
        simp only [World.cell?, hb] at this
        simpa using this
      have hlast := h8 (z - 1) (by omega)
      rw [List.getElem?_eq_getElem (l := cs) (by omega)] at hlast
      have hbd : o + i * z + (z - 1) < c.toList.length := by
        rcases Nat.lt_or_ge (o + i * z + (z - 1)) c.toList.length with h | h
        · exact h
        · rw [List.getElem?_eq_none h] at hlast; cases hlast
      rw [h4]
      refine ⟨by omega, ?_⟩
      apply List.ext_getElem?
      intro j
      by_cases hj : j < z
      · rw [List.getElem?_take, if_pos hj, List.getElem?_drop, h8 j hj]
      · rw [List.getElem?_take, if_neg hj, List.getElem?_eq_none (by omega)]
    have hall : ∀ m, m ≤ len → ∃ es : List (List Value), es.length = m ∧ (∀ x ∈ es, x.length = z ∧ Q W x) ∧ ∀ i, (hi : i < es.length) → ∃ b o, a = ⟨b, o, none⟩ ∧ Rd W.heap b (o + i * z) es[i] := by
      intro m
      induction m with
      | zero => intro _; exact ⟨[], rfl, by simp, fun i hi => by simp at hi⟩
      | succ m ih =>
        intro hm
        obtain ⟨es, h1, h2, h3⟩ := ih (by omega)
        obtain ⟨cs, h4, h5, b, o, h6, h7⟩ := hrow m (by omega)
        refine ⟨es ++ [cs], by simp [h1], ?_, ?_⟩
        · intro x hx
          rcases List.mem_append.1 hx with hx | hx
          · exact h2 x hx
          · simp only [List.mem_singleton] at hx; rw [hx]; exact ⟨h4, h5⟩
        · intro i hi
          by_cases hlt : i < es.length
          · rw [List.getElem_append_left hlt]; exact h3 i hlt
          · have : i = es.length := by simp at hi; omega
            subst this
            rw [List.getElem_append_right (Nat.le_refl _)]
            simp only [Nat.sub_self, List.getElem_cons_zero]
            exact ⟨b, o, h6, by rw [h1]; exact h7⟩
    obtain ⟨es, h1, h2, h3⟩ := hall len (Nat.le_refl _)
    refine ⟨_, es, rfl, ⟨some a, len, cap, rfl, h1.symm, fun x hx => (h2 x hx).1, fun x hx => hQ W x (h2 x hx).2, fun i hi => ?_⟩, fun x hx => (h2 x hx).2, by omega⟩
    obtain ⟨b, o, h4, h5⟩ := h3 i hi
    exact ⟨b, o, by rw [h4], h5⟩
theorem opn_imp {Q Q' : World → List Value → Prop} (h : Opn P t Q) (hi : ∀ W cs, Q W cs → Q' W cs) : Opn P t Q' := ⟨fun hx => hi _ _ (h.out hx)⟩
end
/-- a list of things behind a list of cells. -/
theorem choose_list {E : Type} {c : E → List Value} {ok : E → Prop} : ∀ {es : List (List Value)}, (∀ x ∈ es, ∃ e, x = c e ∧ ok e) → ∃ l : List E, es = l.map c ∧ ∀ e ∈ l, ok e
  | [], _ => ⟨[], rfl, by simp⟩
  | x :: es, h => by
    obtain ⟨l, h1, h2⟩ := choose_list (es := es) fun y hy => h y (List.mem_cons_of_mem _ hy)
    obtain ⟨e, h3, h4⟩ := h x (List.mem_cons_self ..)
    refine ⟨e :: l, by rw [List.map_cons, ← h1, h3], fun y hy => ?_⟩
    rcases List.mem_cons.1 hy with rfl | hy
    · exact h4
    · exact h2 y hy
end Go.Proofs.YtalknmdbamlabaaGreat.Q
