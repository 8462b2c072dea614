/- Plain: what the netter's operations bring, for the walk of Net. -/
import Derived.Test.YtglmlbmjppblbaaP
namespace Go.Proofs.Ytglmlbmjppblbaa
open Go.Kap

theorem within_mem {xs : List Int} {m : Int} (h : within xs m = true) : ∀ x ∈ xs, 1 ≤ x ∧ x ≤ m := fun x hx => by
  unfold within at h
  rw [List.all_eq_true] at h
  have := h x hx
  simpa using this
structure OkF (c : ChgM) : Prop where
  k1 : 1 ≤ c.kinds
  k4 : c.kinds ≤ 4
  f1 : 1 ≤ c.frm.length
  f2 : c.frm.length ≤ 2
  t2 : c.to.length ≤ 2
  l2 : c.left.length ≤ 2
  r1 : c.right.length ≤ 1
  syF : Sy c.frm
  syT : Sy c.to
theorem OkF.of {c : ChgM} (h : okC c = true) : OkF c := by
  unfold okC at h
  simp only [Bool.and_eq_true, decide_eq_true_eq] at h
  obtain ⟨⟨⟨⟨⟨⟨⟨⟨⟨⟨⟨h1, h2⟩, h3⟩, h4⟩, h5⟩, h6⟩, h7⟩, _⟩, _⟩, h8⟩, h9⟩, _⟩ := h
  exact ⟨h1, h2, h3, h4, h5, h6, h7, fun x hx => by have := within_mem h8 x hx; omega, fun x hx => by have := within_mem h9 x hx; omega⟩

theorem stepO_sy {c : ChgM} (h : OkF c) (o : List Int) {i : List Int} (hi : Sy i) : Sy (stepO c o i) := by
  unfold stepO; split
  · exact h.syT
  · exact hi.take 1
theorem trunc_sy {n : Nat} {o : List Int} (h : Sy o) : Sy (truncL n o) := by
  unfold truncL; split
  · exact h.drop _
  · exact h
theorem trunc_len (n : Nat) (o : List Int) : (truncL n o).length ≤ n := by
  unfold truncL; split
  · rw [List.length_drop]; omega
  · omega
theorem restF_sy {c : ChgM} (h : OkF c) : ∀ (f : Nat) (o i : List Int), Sy i → Sy (restF c f o i) := by
  intro f
  induction f with
  | zero => intro o i _; exact Sy.nil
  | succ f ih =>
    intro o i hi
    unfold restF
    split
    · exact Sy.nil
    · exact (stepO_sy h o hi).app (ih _ _ (hi.drop _))
theorem restF_len {c : ChgM} (h : OkF c) : ∀ (f : Nat) (o i : List Int), (restF c f o i).length ≤ 2 * i.length := by
  intro f
  induction f with
  | zero => intro o i; simp [restF]
  | succ f ih =>
    intro o i
    unfold restF
    split
    · simp
    · rename_i hn
      have h1 := ih (o ++ stepO c o i) (i.drop (stepN c o i))
      have h2 := stepO_len c o i h.t2
      have h3 := stepN_pos c o i h.f1
      have h4 := stepN_le c o i hn
      rw [List.length_append]
      rw [List.length_drop] at h1
      omega
theorem good_rest {c : ChgM} (h : OkF c) {o i : List Int} (hg : GoodLab (.S o i)) : Sy (restM c o i) ∧ (restM c o i).length ≤ 4 := by
  obtain ⟨h1, h2, h3, h4⟩ := hg
  exact ⟨restF_sy h _ _ _ h2, by have := restF_len h i.length o i; unfold restM; omega⟩
theorem need_le {c : ChgM} (h : OkF c) : need c ≤ 3 := by have := h.f2; have := h.r1; unfold need; omega
theorem good_wait {c : ChgM} (h : OkF c) {o i : List Int} (hg : GoodLab (.S o i)) {x : Int} (hx : 1 ≤ x ∧ x ≤ c.kinds) (hw : (i ++ [x]).length < need c) : GoodLab (.S (truncL c.left.length o) (i ++ [x])) := by
  obtain ⟨h1, h2, h3, h4⟩ := hg
  have := need_le h
  have := h.k4
  have := h.l2
  have := trunc_len c.left.length o
  exact ⟨trunc_sy h1, h2.app (Sy.one ⟨hx.1, by omega⟩), by omega, by omega⟩
theorem good_go {c : ChgM} (h : OkF c) {o i : List Int} (hg : GoodLab (.S o i)) {x : Int} (hx : 1 ≤ x ∧ x ≤ c.kinds) : GoodLab (.S (truncL c.left.length (o ++ stepO c o (i ++ [x]))) ((i ++ [x]).drop (stepN c o (i ++ [x])))) := by
  obtain ⟨h1, h2, h3, h4⟩ := hg
  have := h.k4
  have := h.l2
  have := trunc_len c.left.length (o ++ stepO c o (i ++ [x]))
  have hm : Sy (i ++ [x]) := h2.app (Sy.one ⟨hx.1, by omega⟩)
  have h3 := stepN_pos c o (i ++ [x]) h.f1
  exact ⟨trunc_sy (h1.app (stepO_sy h o hm)), hm.drop _, by omega, by rw [List.length_drop, List.length_append]; simp; omega⟩
theorem good_W {c : ChgM} (h : OkF c) {o i : List Int} (hg : GoodLab (.S o i)) {x : Int} (hx : 1 ≤ x ∧ x ≤ c.kinds) {b : Int} (hb : b ∈ stepO c o (i ++ [x])) : GoodLab (.W (truncL c.left.length (o ++ stepO c o (i ++ [x]))) ((i ++ [x]).drop (stepN c o (i ++ [x]))) b) := by
  obtain ⟨h1, h2, h3, h4⟩ := good_go h hg hx
  have := h.k4
  have hm : Sy (i ++ [x]) := hg.2.1.app (Sy.one ⟨hx.1, by omega⟩)
  exact ⟨h1, h2, h3, h4, stepO_sy h o hm b hb⟩

/-- The netter and its labels, in the midst of Net; a: how many arcs beyond the labels. -/
structure NI (c : ChgM) (s : NS) (L : LS) (a : Nat) : Prop where
  rel : Rel s L
  inv : LInv c [] L
  count : L.arcs.length ≤ L.labs.length + a
section
variable {c : ChgM} {s : NS} {L : LS} {a : Nat}
theorem NI.labs (h : NI c s L a) : L.labs.length ≤ 2546 := h.inv.ok.len
theorem NI.names (h : NI c s L a) : s.names.length = L.labs.length := h.rel.len
theorem NI.arcs (h : NI c s L a) : s.arcs.length ≤ 2546 + a := by rw [h.rel.arcs]; have := h.count; have := h.labs; omega
theorem NI.sts (h : NI c s L a) : s.sts.length ≤ s.names.length := by rw [h.names]; exact h.rel.sl
theorem NI.finals (h : NI c s L a) : s.finals.length ≤ 1 := by
  rw [h.rel.finals, h.inv.fin]
  split <;> simp
theorem NI.zero (h : NI c s L a) : nameAt s.names (keyB 115 [[], []]) ≠ none := by
  have := h.rel.look h.inv.ok (x := .S [] []) ⟨Sy.nil, Sy.nil, by simp, by simp⟩ (fun _ _ _ e => by cases e)
  simp only [keyOf] at this
  rw [this, posF_inj h.inv.ok.nodup h.inv.zero]
  simp
theorem NI.mono (h : NI c s L a) {b : Nat} (hab : a ≤ b) : NI c s L b := ⟨h.rel, h.inv, by have := h.count; omega⟩
theorem OpOK.count' {L' : LS} (h : OpOK c [] L L') (hc : L.arcs.length ≤ L.labs.length + a) : L'.arcs.length ≤ L'.labs.length + a := by have := h.count; omega

theorem NI.state (h : NI c s L a) {o i : List Int} (hg : GoodLab (.S (truncL c.left.length o) i)) : ∃ (L' : LS) (t : Nat), NI c (stateM c.left.length s o i).1 L' a ∧ (stateM c.left.length s o i).2 = (t : Int) ∧ posF (.S (truncL c.left.length o) i) L'.labs = some t ∧ Ext L L' := by
  obtain ⟨h1, h2⟩ := state_ok h.inv hg
  obtain ⟨h3, h4⟩ := state_sim h.rel h.inv.ok c.left.length hg
  exact ⟨_, _, ⟨h3, h1.inv, h1.count' h.count⟩, h4, h2, h1.ext⟩
theorem NI.tail (h : NI c s L a) {l : List Int} (hs : Sy l) (hl : l.length ≤ 4) : ∃ (L' : LS) (t : Nat), NI c (tailM s l).1 L' a ∧ (tailM s l).2 = (t : Int) ∧ posF (.T l) L'.labs = some t ∧ Ext L L' := by
  obtain ⟨h1, h2⟩ := tail_ok l h.inv hs hl
  obtain ⟨h3, h4⟩ := tail_sim l h.rel h.inv hs hl
  exact ⟨_, _, ⟨h3, h1.inv, h1.count' h.count⟩, h4, h2, h1.ext⟩
theorem NI.writes (h : NI c s L a) {o i : List Int} {b : Int} (hg : GoodLab (.W o i b)) {j : Nat} (hj : posF (.S o i) L.labs = some j) : ∃ (L' : LS) (t : Nat), NI c (writesM s j b).1 L' a ∧ (writesM s j b).2 = (t : Int) ∧ posF (.W o i b) L'.labs = some t ∧ Ext L L' := by
  obtain ⟨h1, h2⟩ := writes_ok h.inv hg hj
  obtain ⟨h3, h4⟩ := writes_sim h.rel h.inv hg hj
  exact ⟨_, _, ⟨h3, h1.inv, h1.count' h.count⟩, h4, h2, h1.ext⟩
theorem NI.arc (h : NI c s L a) {u v : Lab} {f t : Nat} {x y : Int} (hu : posF u L.labs = some f) (hv : posF v L.labs = some t) (hs : StepL c u x y v) :
    ∃ L' : LS, NI c { s with arcs := s.arcs ++ [⟨f, t, x, y⟩] } L' (a + 1) ∧ (⟨f, t, x, y⟩ : ArcM) ∈ L'.arcs ∧ L'.labs = L.labs ∧ Ext L L' := by
  obtain ⟨h1, h2⟩ := h.inv.arc hu hv hs
  exact ⟨_, ⟨h.rel.arcs_ _, h1, by have := h.count; simp; omega⟩, by simp, rfl, h2⟩

/-- One symbol's arc is there. -/
def ArcAt (c : ChgM) (L : LS) (k : Nat) (o i : List Int) (x : Int) : Prop := ∃ t : Nat, posF (symT c o i x).2 L.labs = some t ∧ (⟨k, t, x, (symT c o i x).1⟩ : ArcM) ∈ L.arcs
def RestAt (c : ChgM) (L : LS) (k : Nat) (o i : List Int) : Prop := ∃ t : Nat, posF (.T (restM c o i)) L.labs = some t ∧ (⟨k, t, 0, 0⟩ : ArcM) ∈ L.arcs
theorem ArcAt.ext {L' : LS} {k : Nat} {o i : List Int} {x : Int} (h : ArcAt c L k o i x) (e : Ext L L') : ArcAt c L' k o i x := by
  obtain ⟨t, h1, h2⟩ := h; exact ⟨t, e.pos h1, e.arcs _ h2⟩
theorem RestAt.ext {L' : LS} {k : Nat} {o i : List Int} (h : RestAt c L k o i) (e : Ext L L') : RestAt c L' k o i := by
  obtain ⟨t, h1, h2⟩ := h; exact ⟨t, e.pos h1, e.arcs _ h2⟩
theorem done_S {k : Nat} {o i : List Int} (hk : posF (.S o i) L.labs = some k) (hr : RestAt c L k o i) (ha : ∀ x : Int, 1 ≤ x → x ≤ c.kinds → ArcAt c L k o i x) : DoneL c L (.S o i) := by
  intro x y v hs
  rcases hs with ⟨rfl, rfl, rfl⟩ | ⟨h1, h2, h3⟩
  · obtain ⟨t, h4, h5⟩ := hr
    exact ⟨k, t, hk, h4, h5⟩
  · obtain ⟨t, h4, h5⟩ := ha x h1 h2
    rw [← h3] at h4 h5
    exact ⟨k, t, hk, h4, h5⟩
end
/-- The first state. -/
theorem ni_begin {c : ChgM} : NI c (stateM c.left.length ⟨[], [], [], []⟩ [] []).1 ⟨[.S [] []], [], []⟩ 0 ∧ (stateM c.left.length ⟨[], [], [], []⟩ [] []).2 = 0 := by
  have h0 : Rel ⟨[], [], [], []⟩ ⟨[], [], []⟩ := ⟨rfl, rfl, rfl, by simp, by simp, by simp⟩
  have ht : truncL c.left.length [] = [] := by unfold truncL; simp
  obtain ⟨h1, h2⟩ := state_sim h0 ⟨List.nodup_nil, by simp, by simp⟩ c.left.length (o := []) (i := []) (by rw [ht]; exact ⟨Sy.nil, Sy.nil, by simp, by simp⟩)
  rw [ht] at h1 h2
  refine ⟨⟨h1, ⟨⟨by simp, ?_, ?_⟩, by simp, ?_, by simp [posF], rfl⟩, by simp⟩, h2⟩
  · intro x hx
    simp at hx
    subst hx
    exact ⟨Sy.nil, Sy.nil, by simp, by simp⟩
  · intro o i b h
    simp at h
  · intro u hu hn
    simp at hu
    subst hu
    exact absurd trivial hn
end Go.Proofs.Ytglmlbmjppblbaa
