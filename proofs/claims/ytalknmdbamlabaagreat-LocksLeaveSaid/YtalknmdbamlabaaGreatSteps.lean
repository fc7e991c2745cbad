/- Steps of my walk layer: what each operation asks, over blocks. Conditions: none. -/
import Derived.Test.YtalknmdbamlabaaGreatBase
namespace Go.Proofs.YtalknmdbamlabaaGreat.Q
open Go
abbrev pt (b o : Nat) : Value := .pointer (some ⟨b, o, none⟩)
abbrev vi (n : Int) : Value := .int .i64 n
abbrev vu (n : Int) : Value := .int .u64 n
abbrev sl (b o n c : Nat) : Value := .slice (some ⟨b, o, none⟩) n c
abbrev nilS : Value := .slice none 0 0
theorem add_mk (b o n : Nat) : (⟨b, o, none⟩ : Addr).add n = ⟨b, o + n, none⟩ := by
  unfold Addr.add; split
  · rename_i h; subst h; rfl
  · rfl

/-- block b holds just these cells, and they may be written. -/
def Blk (h : Hp) (b : Nat) (cs : List Value) : Prop := ∃ e fz, h[b]? = some (.cells cs.toArray e fz) ∧ ∀ i, i < cs.length → ¬ (fz.1 ≤ i ∧ i < fz.2)
/-- b is a map of these entries. -/
def Mp (h : Hp) (b : Nat) (es : List MapEntry) (clock : Nat) : Prop := h[b]? = some (.map es.toArray clock)
/-- all but the blocks of S is as it was, and nothing is gone. -/
structure Ch (S : Nat → Prop) (h h' : Hp) : Prop where
  size : h.size ≤ h'.size
  same : ∀ b, b < h.size → ¬ S b → h'[b]? = h[b]?
abbrev Ext := Ch (fun _ => False)
theorem Ch.refl (S : Nat → Prop) (h : Hp) : Ch S h h := ⟨Nat.le_refl _, fun _ _ _ => rfl⟩
theorem Ch.mono {S S' : Nat → Prop} {h h' : Hp} (H : Ch S h h') (hs : ∀ b, b < h.size → S b → S' b) : Ch S' h h' := ⟨H.size, fun b hb hn => H.same b hb fun e => hn (hs b hb e)⟩
theorem Ch.trans {S S' : Nat → Prop} {h h1 h2 : Hp} (H : Ch S h h1) (H' : Ch S' h1 h2) (hs : ∀ b, b < h.size → S' b → S b) : Ch S h h2 :=
  ⟨Nat.le_trans H.size H'.size, fun b hb hn => by rw [H'.same b (Nat.lt_of_lt_of_le hb H.size) (fun e => hn (hs b hb e)), H.same b hb hn]⟩
theorem Ch.trans' {S : Nat → Prop} {h h1 h2 : Hp} (H : Ch S h h1) (H' : Ch S h1 h2) : Ch S h h2 := H.trans H' fun _ _ h => h
theorem Ch.ext {S : Nat → Prop} {h h1 h2 : Hp} (H : Ch S h h1) (H' : Ext h1 h2) : Ch S h h2 := H.trans H' fun _ _ h => h.elim
theorem Ch.get {S : Nat → Prop} {h h' : Hp} (H : Ch S h h') {b : Nat} {o : Obj} (hb : h[b]? = some o) (hn : ¬ S b) : h'[b]? = some o := by
  rw [H.same b (lt_of_get hb) hn]; exact hb
theorem Blk.lt {h : Hp} {b : Nat} {cs : List Value} (H : Blk h b cs) : b < h.size := by obtain ⟨_, _, h1, _⟩ := H; exact lt_of_get h1
theorem Blk.ch {S : Nat → Prop} {h h' : Hp} {b : Nat} {cs : List Value} (H : Blk h b cs) (hc : Ch S h h') (hn : ¬ S b) : Blk h' b cs := by
  obtain ⟨e, fz, h1, h2⟩ := H; exact ⟨e, fz, hc.get h1 hn, h2⟩
theorem Mp.ch {S : Nat → Prop} {h h' : Hp} {b : Nat} {es : List MapEntry} {c : Nat} (H : Mp h b es c) (hc : Ch S h h') (hn : ¬ S b) : Mp h' b es c := hc.get H hn
theorem Mp.lt {h : Hp} {b : Nat} {es : List MapEntry} {c : Nat} (H : Mp h b es c) : b < h.size := lt_of_get H
theorem Blk.uniq {h : Hp} {b : Nat} {cs cs' : List Value} (H : Blk h b cs) (H' : Blk h b cs') : cs = cs' := by
  obtain ⟨e, fz, h1, _⟩ := H; obtain ⟨e', fz', h1', _⟩ := H'
  rw [h1] at h1'; simp at h1'; exact h1'.1
theorem Blk.notMp {h : Hp} {b : Nat} {cs : List Value} {es : List MapEntry} {c : Nat} (H : Blk h b cs) (H' : Mp h b es c) : False := by
  obtain ⟨e, fz, h1, _⟩ := H; unfold Mp at H'; rw [h1] at H'; cases H'
/-- block b holds just these cells. -/
def BlR (h : Hp) (b : Nat) (cs : List Value) : Prop := ∃ e fz, h[b]? = some (.cells cs.toArray e fz)
theorem Blk.r {h : Hp} {b : Nat} {cs : List Value} (H : Blk h b cs) : BlR h b cs := by obtain ⟨e, fz, h1, _⟩ := H; exact ⟨e, fz, h1⟩
theorem BlR.lt {h : Hp} {b : Nat} {cs : List Value} (H : BlR h b cs) : b < h.size := by obtain ⟨_, _, h1⟩ := H; exact lt_of_get h1
theorem BlR.uniq {h : Hp} {b : Nat} {cs cs' : List Value} (H : BlR h b cs) (H' : BlR h b cs') : cs = cs' := by
  obtain ⟨e, fz, h1⟩ := H; obtain ⟨e', fz', h1'⟩ := H'
  rw [h1] at h1'; simp at h1'; exact h1'.1
/-! what a block gives -/
theorem BlR.cel {h : Hp} {b o : Nat} {cs : List Value} (H : BlR h b cs) : cel h ⟨b, o, none⟩ = cs[o]? := by
  obtain ⟨e, fz, h1⟩ := H
  simp [Q.cel, h1]
theorem BlR.cels {h : Hp} {b o : Nat} {cs : List Value} (H : BlR h b cs) : ∀ (n i : Nat), o + i + n ≤ cs.length → Q.cels h ⟨b, o, none⟩ i n = some ((cs.drop (o + i)).take n)
  | 0, i, _ => by simp [Q.cels]
  | n + 1, i, hl => by
    simp only [Q.cels, add_mk, H.cel]
    have hlt : o + i < cs.length := by omega
    rw [List.getElem?_eq_getElem hlt]
    rw [BlR.cels (o := o) H n (i + 1) (by omega), List.drop_eq_getElem_cons hlt]
    simp [Nat.add_assoc]
theorem Blk.cel {h : Hp} {b o : Nat} {cs : List Value} (H : Blk h b cs) : cel h ⟨b, o, none⟩ = cs[o]? := H.r.cel
theorem Blk.cels {h : Hp} {b o : Nat} {cs : List Value} (H : Blk h b cs) : ∀ (n i : Nat), o + i + n ≤ cs.length → Q.cels h ⟨b, o, none⟩ i n = some ((cs.drop (o + i)).take n) := H.r.cels
def splice (cs : List Value) (o : Nat) (vs : List Value) : List Value := cs.take o ++ vs ++ cs.drop (o + vs.length)
theorem splice_len {cs vs : List Value} {o : Nat} (h : o + vs.length ≤ cs.length) : (splice cs o vs).length = cs.length := by simp [splice]; omega
theorem splice_nil (cs : List Value) (o : Nat) : splice cs o [] = cs := by simp [splice]
theorem splice_cons {cs vs : List Value} {o : Nat} {v : Value} (h : o < cs.length) : splice (cs.set o v) (o + 1) vs = splice cs o (v :: vs) := by
  unfold splice
  rw [List.set_eq_take_append_cons_drop, if_pos h]
  have hl : (cs.take o).length = o := by simp; omega
  conv => lhs; rw [show o + 1 = (cs.take o).length + 1 from by omega, show (cs.take o).length + 1 + vs.length = (cs.take o).length + (1 + vs.length) from by omega]
  rw [List.take_length_add_append, List.drop_length_add_append]
  simp only [List.take_succ_cons, List.take_zero, List.drop_succ_cons, List.drop_drop, List.length_cons, List.append_assoc, List.cons_append, List.nil_append, Nat.add_comm 1 vs.length]
  rw [hl, show o + 1 + vs.length = o + (vs.length + 1) from by omega]
/-- block b is written; nothing else. -/
structure Upd (h h' : Hp) (b : Nat) (cs : List Value) : Prop where
  size : h'.size = h.size
  same : ∀ b', b' ≠ b → h'[b']? = h[b']?
  blk : Blk h' b cs
theorem Upd.ch {h h' : Hp} {b : Nat} {cs : List Value} (H : Upd h h' b cs) : Ch (· = b) h h' := ⟨by rw [H.size]; exact Nat.le_refl _, fun b' _ hn => H.same b' hn⟩
theorem Blk.setc {h : Hp} {b o : Nat} {cs : List Value} {v : Value} (H : Blk h b cs) (ho : o < cs.length) : Upd h (Q.setc h ⟨b, o, none⟩ v) b (cs.set o v) := by
  obtain ⟨e, fz, h1, h2⟩ := H
  refine ⟨by simp [Q.setc], fun b' hb => ?_, e, fz, ?_, ?_⟩
  · simp only [Q.setc]; rw [Array.getElem?_modify, if_neg (Ne.symm hb)]
  · simp only [Q.setc]; rw [Array.getElem?_modify, if_pos rfl, h1]; simp
  · simpa using h2
theorem Blk.stcs {b o : Nat} : ∀ (vs : List Value) (i : Nat) (h : Hp) (cs : List Value), Blk h b cs → o + i + vs.length ≤ cs.length → (∀ v ∈ vs, oneC v = true) →
    ∃ h', Q.stcs h ⟨b, o, none⟩ i vs = some h' ∧ Upd h h' b (splice cs (o + i) vs)
  | [], i, h, cs, H, _, _ => ⟨h, rfl, rfl, fun _ _ => rfl, by rw [splice_nil]; exact H⟩
  | v :: vs, i, h, cs, H, hl, h1 => by
    simp only [List.length_cons] at hl
    have hlt : o + i < cs.length := by omega
    obtain ⟨h', h3, h4⟩ := Blk.stcs (o := o) vs (i + 1) (Q.setc h ⟨b, o + i, none⟩ v) (cs.set (o + i) v) (H.setc hlt).blk (by simp; omega) (fun u hu => h1 u (List.mem_cons_of_mem _ hu))
    refine ⟨h', ?_, ?_⟩
    · simp only [Q.stcs, add_mk, H.cel, List.getElem?_eq_getElem hlt]
      have hfz : frz h ⟨b, o + i, none⟩ = false := by
        obtain ⟨e, fz, g1, g2⟩ := H
        have := g2 (o + i) hlt
        simp only [frz, g1]
        simpa using this
      rw [if_pos ⟨h1 v (List.mem_cons_self ..), hfz⟩]; exact h3
    · have hs := H.setc (v := v) hlt
      rw [← splice_cons hlt]
      exact ⟨h4.size.trans hs.size, fun b' hb => (h4.same b' hb).trans (hs.same b' hb), h4.blk⟩
/-- a new block. -/
structure New (h h' : Hp) (b : Nat) (cs : List Value) : Prop where
  eq : b = h.size
  size : h'.size = h.size + 1
  ext : Ext h h'
  blk : Blk h' b cs
theorem New.mk' (h : Hp) (cs : Array Value) (t : TypeId) : New h (h.push (.cells cs t)) h.size cs.toList := by
  refine ⟨rfl, by simp, ⟨by simp, fun b hb _ => by rw [Array.getElem?_push, if_neg (by omega)]⟩, t, (0, 0), by simp, fun i _ => by simp⟩

/-! steps -/
section
variable {h : Hp} {K : Value → A} {X Y : A}
theorem al_s {z : List Value} {t : TypeId} (H : ∀ h' b, New h h' b z → K (pt b 0) h') : al z t K h := H _ _ (by have := New.mk' h z.toArray t; simpa using this)
theorem bx_s {v : Value} {t : TypeId} (H : ∀ h' b, New h h' b v.cells.toList → K (pt b 0) h') : bx t v K h := H _ _ (New.mk' h v.cells t)
theorem bsl_s {z : List Value} {e n : Nat} {ps : List (Nat × Nat × Value)} (cs : List Value) (hf : fill2 (rep z n) ps = some cs) (H : ∀ h' b, New h h' b cs → K (sl b 0 n n) h') : bsl z e n ps K h :=
  ⟨cs, hf, H _ _ (by have := New.mk' h cs.toArray e; simpa using this)⟩
theorem bd_s {z : List Value} {ps : List (Nat × Nat × Value)} (cs : List Value) (hf : fill2 z ps = some cs) (H : K (.agg cs.toArray) h) : bd z ps K h := ⟨cs, hf, H⟩
theorem ld1_r {b o : Nat} {cs : List Value} (hb : BlR h b cs) (v : Value) (hv : cs[o]? = some v) (H : K v h) : ld1 (pt b o) K h := ⟨_, v, rfl, by rw [hb.cel]; exact hv, H⟩
theorem ldn_r {b o n : Nat} {cs : List Value} (hb : BlR h b cs) (vs : List Value) (hl : o + n ≤ cs.length) (hv : (cs.drop o).take n = vs) (H : K (.agg vs.toArray) h) : ldn n (pt b o) K h :=
  ⟨_, vs, rfl, by rw [hb.cels n 0 (by omega), Nat.add_zero, hv], H⟩
theorem ld1_s {b o : Nat} {cs : List Value} (hb : Blk h b cs) (v : Value) (hv : cs[o]? = some v) (H : K v h) : ld1 (pt b o) K h := ⟨_, v, rfl, by rw [hb.cel]; exact hv, H⟩
theorem ldn_s {b o n : Nat} {cs : List Value} (hb : Blk h b cs) (vs : List Value) (hl : o + n ≤ cs.length) (hv : (cs.drop o).take n = vs) (H : K (.agg vs.toArray) h) : ldn n (pt b o) K h :=
  ⟨_, vs, rfl, by rw [hb.cels n 0 (by omega), Nat.add_zero, hv], H⟩
theorem st_s {b o n : Nat} {cs : List Value} {v : Value} (hb : Blk h b cs) (hn : v.cells.size = n) (hl : o + n ≤ cs.length) (h1 : ∀ u ∈ v.cells.toList, oneC u = true)
    (H : ∀ h', Upd h h' b (splice cs o v.cells.toList) → X h') : st n (pt b o) v X h := by
  obtain ⟨h', h2, h3⟩ := Blk.stcs (b := b) (o := o) v.cells.toList 0 h cs hb (by simp; omega) h1
  exact ⟨_, h', rfl, hn, h2, H h' h3⟩
theorem fa_s {b o n : Nat} (H : K (pt b (o + n)) h) : fa (pt b o) n K h := ⟨_, rfl, by rw [add_mk]; exact H⟩
theorem nc_s {b o : Nat} (H : K (pt b o) h) : nc (pt b o) K h := ⟨_, rfl, H⟩
theorem ixs_s {b o sz len cap : Nat} {k : IntKind} {n : Int} (h0 : 0 ≤ n) (h1 : n < (len : Int)) (H : K (pt b (o + n.toNat * sz)) h) : ixs sz (sl b o len cap) (.int k n) K h :=
  ⟨_, len, cap, k, n, rfl, rfl, h0, h1, by rw [add_mk]; exact H⟩
theorem ex_s {i : Nat} {vs : Array Value} (v : Value) (hv : vs[i]? = some v) (H : K v h) : ex i (.tuple vs) K h := ⟨vs, v, rfl, hv, H⟩
theorem lnS_s {a : Option Addr} {n c : Nat} (H : K (vi n) h) : lnS (.slice a n c) K h := ⟨a, n, c, rfl, H⟩
theorem lnT_s {s : ByteArray} (H : K (vi s.size) h) : lnT (.string s) K h := ⟨s, rfl, H⟩
theorem bn_s {op : BinOp} {x y : Value} (v : Value) (hv : binV op x y = some v) (H : K v h) : bn op x y K h := ⟨v, hv, H⟩
theorem un_s {op : UnOp} {x : Value} (v : Value) (hv : unV op x = some v) (H : K v h) : un op x K h := ⟨v, hv, H⟩
theorem cn_s {b : Bool} (h1 : b = true → X h) (h2 : b = false → Y h) : cn (.bool b) X Y h := ⟨b, rfl, h1, h2⟩
theorem cn_t (h1 : X h) : cn (.bool true) X Y h := ⟨true, rfl, fun _ => h1, fun e => by cases e⟩
theorem cn_f (h1 : Y h) : cn (.bool false) X Y h := ⟨false, rfl, fun e => (by cases e), fun _ => h1⟩
theorem pk_s {t : Bool} {a b : Value} (H : K (if t then a else b) h) : pk (.bool t) a b K h := ⟨t, rfl, H⟩
theorem cvi_s {k j : IntKind} {n : Int} (H : K (.int k (k.wrap n)) h) : cvi k (.int j n) K h := ⟨j, n, rfl, H⟩
theorem mf_s {f : Fn} {a b : List Value} (H : K (.func f a.toArray b.toArray) h) : mf f a b K h := H
theorem gd_t {w : Bool} {F : (Value → A) → A} (H : F K h) : gd (.bool w) w F K h := ⟨fun _ => H, fun e => absurd rfl e⟩
theorem gd_f {c : Value} {w : Bool} {F : (Value → A) → A} (hc : c ≠ .bool w) (H : K undef h) : gd c w F K h := ⟨fun e => absurd e hc, fun _ => H⟩
theorem cl_s {P : Program} {f : FuncId} {args : List Value} (hb : ∃ fn, P.funcs[f]? = some fn ∧ fn.body.isSome = true ∧ (fn.name == "runtime.NumGoroutine") = false) {R : Value → A}
    (hf : FnW P f args.toArray R h) (H : ∀ v h', R v h' → K v h') : cl P f args K h := .inl ⟨hb, hf.mono H⟩
theorem cv_s {P : Program} {f : FuncId} {first cap : Array Value} {args : List Value} (hb : ∃ fn, P.funcs[f]? = some fn ∧ fn.body.isSome = true ∧ (fn.name == "runtime.NumGoroutine") = false) {R : Value → A}
    (hf : FnW P f (first ++ args.toArray ++ cap) R h) (H : ∀ v h', R v h' → K v h') : CV P (.func (.func f) first cap) args K h := ⟨hb, hf.mono H⟩
theorem slc_s {sz l u len cap : Nat} {b o : Nat} {lo hi : Option Value} (hl : bnd lo 0 l) (hu : bnd hi len u) (h1 : l ≤ u) (h2 : u ≤ cap)
    (H : K (.slice (if cap = l then some ⟨b, o, none⟩ else some ⟨b, o + l * sz, none⟩) (u - l) (cap - l)) h) : slc sz lo hi none (sl b o len cap) K h :=
  ⟨_, len, cap, l, u, cap, rfl, rfl, hu, hl, h1, h2, Nat.le_refl _, by simp, by simpa [add_mk] using H⟩
end
/-! numbers -/
abbrev w64 (n : Int) : Int := IntKind.i64.wrap n
theorem w64_id {n : Int} (h1 : -9223372036854775808 ≤ n) (h2 : n ≤ 9223372036854775807) : IntKind.i64.wrap n = n := by
  have e : IntKind.i64.wrap n = if n % 18446744073709551616 ≥ 9223372036854775808 then n % 18446744073709551616 - 18446744073709551616 else n % 18446744073709551616 := by
    simp [IntKind.wrap, IntKind.bits, IntKind.signed]
  rw [e]; split <;> omega
theorem wu64_id {n : Int} (h1 : 0 ≤ n) (h2 : n ≤ 18446744073709551615) : IntKind.u64.wrap n = n := by
  have e : IntKind.u64.wrap n = n % 18446744073709551616 := by simp [IntKind.wrap, IntKind.bits, IntKind.signed]
  rw [e]; omega
end Go.Proofs.YtalknmdbamlabaaGreat.Q
