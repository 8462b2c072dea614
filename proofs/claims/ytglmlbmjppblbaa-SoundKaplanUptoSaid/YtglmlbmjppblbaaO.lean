/- Plain: the netter upon labels. -/
import Derived.Test.YtglmlbmjppblbaaN
namespace Go.Proofs.Ytglmlbmjppblbaa
open Go.Kap

structure LS where
  labs : List Lab
  arcs : List ArcM
  finals : List Int

def need (c : ChgM) : Nat := c.frm.length + c.right.length
/-- Where a symbol leads from a state, and what is written. -/
def symT (c : ChgM) (o i : List Int) (x : Int) : Int × Lab :=
  if (i ++ [x]).length < need c then (0, .S (truncL c.left.length o) (i ++ [x]))
  else match stepO c o (i ++ [x]) with
    | [] => (0, .S (truncL c.left.length (o ++ [])) ((i ++ [x]).drop (stepN c o (i ++ [x]))))
    | [a] => (a, .S (truncL c.left.length (o ++ [a])) ((i ++ [x]).drop (stepN c o (i ++ [x]))))
    | a :: b :: r => (a, .W (truncL c.left.length (o ++ a :: b :: r)) ((i ++ [x]).drop (stepN c o (i ++ [x]))) b)
def StepL (c : ChgM) : Lab → Int → Int → Lab → Prop
  | .S o i, x, y, v => (x = 0 ∧ y = 0 ∧ v = .T (restM c o i)) ∨ (1 ≤ x ∧ x ≤ c.kinds ∧ (y, v) = symT c o i x)
  | .T [], _, _, _ => False
  | .T (z :: r), x, y, v => x = 0 ∧ y = z ∧ v = .T r
  | .W o i b, x, y, v => x = 0 ∧ y = b ∧ v = .S o i
def isS : Lab → Prop
  | .S _ _ => True
  | _ => False

/-- All that a label does is there. -/
def DoneL (c : ChgM) (L : LS) (u : Lab) : Prop := ∀ x y v, StepL c u x y v → ∃ f t : Nat, posF u L.labs = some f ∧ posF v L.labs = some t ∧ (⟨f, t, x, y⟩ : ArcM) ∈ L.arcs
structure LInv (c : ChgM) (P : List Lab) (L : LS) : Prop where
  ok : LabOK L.labs
  sound : ∀ a ∈ L.arcs, ∃ (f t : Nat) (u v : Lab), a.f = f ∧ a.t = t ∧ L.labs[f]? = some u ∧ L.labs[t]? = some v ∧ StepL c u a.i a.o v
  aux : ∀ u ∈ L.labs, ¬ isS u → u ∉ P → DoneL c L u
  fin : L.finals = match posF (.T []) L.labs with | some j => [(j : Int)] | none => []
  zero : L.labs[0]? = some (.S [] [])
structure Ext (L L' : LS) : Prop where
  labs : ∃ m, L'.labs = L.labs ++ m
  arcs : ∀ a ∈ L.arcs, a ∈ L'.arcs
theorem Ext.refl (L : LS) : Ext L L := ⟨⟨[], by simp⟩, fun _ h => h⟩
theorem Ext.trans {a b c : LS} (h : Ext a b) (k : Ext b c) : Ext a c := by
  obtain ⟨m, hm⟩ := h.labs
  obtain ⟨n, hn⟩ := k.labs
  exact ⟨⟨m ++ n, by rw [hn, hm, List.append_assoc]⟩, fun x hx => k.arcs x (h.arcs x hx)⟩
theorem Ext.pos {L L' : LS} (h : Ext L L') {x : Lab} {i : Nat} (hp : posF x L.labs = some i) : posF x L'.labs = some i := by
  obtain ⟨m, hm⟩ := h.labs
  rw [hm]; exact posF_app m hp
theorem Ext.get {L L' : LS} (h : Ext L L') {x : Lab} {i : Nat} (hp : L.labs[i]? = some x) : L'.labs[i]? = some x := by
  obtain ⟨m, hm⟩ := h.labs
  rw [hm, List.getElem?_append_left (List.getElem?_eq_some_iff.1 hp).1]; exact hp
theorem Ext.len {L L' : LS} (h : Ext L L') : L.labs.length ≤ L'.labs.length := by
  obtain ⟨m, hm⟩ := h.labs
  rw [hm]; simp
theorem DoneL.ext {c : ChgM} {L L' : LS} {u : Lab} (h : DoneL c L u) (e : Ext L L') : DoneL c L' u := fun x y v hs => by
  obtain ⟨f, t, h1, h2, h3⟩ := h x y v hs
  exact ⟨f, t, e.pos h1, e.pos h2, e.arcs _ h3⟩

/-- An arc is put in. -/
theorem LInv.arc {c : ChgM} {P : List Lab} {L : LS} (h : LInv c P L) {u v : Lab} {f t : Nat} {x y : Int} (hu : posF u L.labs = some f) (hv : posF v L.labs = some t) (hs : StepL c u x y v) :
    LInv c P { L with arcs := L.arcs ++ [⟨f, t, x, y⟩] } ∧ Ext L { L with arcs := L.arcs ++ [⟨f, t, x, y⟩] } := by
  have he : Ext L { L with arcs := L.arcs ++ [⟨f, t, x, y⟩] } := ⟨⟨[], by simp⟩, fun a ha => by simp [ha]⟩
  refine ⟨⟨h.ok, fun a ha => ?_, fun u hu hn hp => (h.aux u hu hn hp).ext he, h.fin, h.zero⟩, he⟩
  simp only [List.mem_append, List.mem_singleton] at ha
  rcases ha with ha | rfl
  · exact h.sound a ha
  · exact ⟨f, t, u, v, rfl, rfl, posF_get hu, posF_get hv, hs⟩

/-- A label is put in; its doings are pending. -/
theorem LInv.lab {c : ChgM} {P : List Lab} {L : LS} (h : LInv c P L) {x : Lab} (hx : posF x L.labs = none) (hg : GoodLab x) (hb : ∀ o i b, x = .W o i b → Lab.S o i ∈ L.labs) (hT : x ≠ .T []) (P' : List Lab) (hP : ∀ u, u ∈ P → u ∈ P') (hP' : isS x ∨ x ∈ P') :
    LInv c P' { L with labs := L.labs ++ [x] } ∧ Ext L { L with labs := L.labs ++ [x] } := by
  have he : Ext L { L with labs := L.labs ++ [x] } := ⟨⟨[x], rfl⟩, fun _ h => h⟩
  refine ⟨⟨h.ok.snoc (posF_none.1 hx) hg hb, fun a ha => ?_, fun u hu hn hp => ?_, ?_, he.get h.zero⟩, he⟩
  · obtain ⟨f, t, u, v, h1, h2, h3, h4, h5⟩ := h.sound a ha
    exact ⟨f, t, u, v, h1, h2, he.get h3, he.get h4, h5⟩
  · simp only [List.mem_append, List.mem_singleton] at hu
    rcases hu with hu | rfl
    · exact (h.aux u hu hn (fun hh => hp (hP u hh))).ext he
    · rcases hP' with h1 | h1
      · exact absurd h1 hn
      · exact absurd h1 hp
  · show L.finals = _
    rw [h.fin]
    cases hp : posF (Lab.T []) L.labs with
    | some j => simp only; rw [posF_app [x] hp]
    | none =>
      have : posF (Lab.T []) (L.labs ++ [x]) = none := by
        rw [posF_none] at hp ⊢
        simp only [List.mem_append, List.mem_singleton]
        rintro (h1 | h1)
        · exact hp h1
        · exact hT h1.symm
      simp only [this]

def stateL (L : LS) (o i : List Int) : LS × Nat :=
  match posF (.S o i) L.labs with
  | some j => (L, j)
  | none => ({ L with labs := L.labs ++ [.S o i] }, L.labs.length)
def tailL (L : LS) : List Int → LS × Nat
  | [] => match posF (.T []) L.labs with
    | some j => (L, j)
    | none => ({ L with labs := L.labs ++ [.T []], finals := L.finals ++ [(L.labs.length : Int)] }, L.labs.length)
  | x :: r => match posF (.T (x :: r)) L.labs with
    | some j => (L, j)
    | none =>
      let q := tailL { L with labs := L.labs ++ [.T (x :: r)] } r
      ({ q.1 with arcs := q.1.arcs ++ [⟨L.labs.length, q.2, 0, x⟩] }, L.labs.length)
def writesL (L : LS) (o i : List Int) (j : Nat) (b : Int) : LS × Nat :=
  match posF (.W o i b) L.labs with
  | some n => (L, n)
  | none => ({ L with labs := L.labs ++ [.W o i b], arcs := L.arcs ++ [⟨L.labs.length, j, 0, b⟩] }, L.labs.length)

/-- What an operation brings. -/
structure OpOK (c : ChgM) (P : List Lab) (L L' : LS) : Prop where
  inv : LInv c P L'
  ext : Ext L L'
  count : L'.arcs.length + L.labs.length ≤ L.arcs.length + L'.labs.length

theorem state_ok {c : ChgM} {P : List Lab} {L : LS} (h : LInv c P L) {o i : List Int} (hg : GoodLab (.S o i)) : OpOK c P L (stateL L o i).1 ∧ posF (.S o i) (stateL L o i).1.labs = some (stateL L o i).2 := by
  unfold stateL
  split
  · rename_i j hj
    exact ⟨⟨h, Ext.refl _, Nat.le_refl _⟩, hj⟩
  · rename_i hj
    obtain ⟨h1, h2⟩ := h.lab hj hg (fun _ _ _ e => by cases e) (by intro e; cases e) P (fun _ h => h) (.inl trivial)
    exact ⟨⟨h1, h2, by simp⟩, posF_new hj⟩

theorem tail_ok {c : ChgM} : ∀ (l : List Int) {P : List Lab} {L : LS}, LInv c P L → Sy l → l.length ≤ 4 → OpOK c P L (tailL L l).1 ∧ posF (.T l) (tailL L l).1.labs = some (tailL L l).2
  | [], P, L, h, hs, hl => by
    unfold tailL
    split
    · rename_i j hj
      exact ⟨⟨h, Ext.refl _, Nat.le_refl _⟩, hj⟩
    · rename_i hj
      have he : Ext L { L with labs := L.labs ++ [.T []], finals := L.finals ++ [(L.labs.length : Int)] } := ⟨⟨[.T []], rfl⟩, fun _ h => h⟩
      refine ⟨⟨⟨h.ok.snoc (posF_none.1 hj) ⟨hs, hl⟩ (fun _ _ _ e => by cases e), fun a ha => ?_, fun u hu hn hp => ?_, ?_, he.get h.zero⟩, he, by simp⟩, posF_new hj⟩
      · obtain ⟨f, t, u, v, h1, h2, h3, h4, h5⟩ := h.sound a ha
        exact ⟨f, t, u, v, h1, h2, he.get h3, he.get h4, h5⟩
      · simp only [List.mem_append, List.mem_singleton] at hu
        rcases hu with hu | rfl
        · exact (h.aux u hu hn hp).ext he
        · exact fun x y v hs => hs.elim
      · show L.finals ++ _ = _
        rw [h.fin, hj]
        simp only [posF_new hj]
        rfl
  | x :: r, P, L, h, hs, hl => by
    unfold tailL
    split
    · rename_i j hj
      exact ⟨⟨h, Ext.refl _, Nat.le_refl _⟩, hj⟩
    · rename_i hj
      obtain ⟨h1, h2⟩ := h.lab hj (x := .T (x :: r)) ⟨hs, hl⟩ (fun _ _ _ e => by cases e) (by intro e; cases e) (.T (x :: r) :: P) (fun _ h => by simp [h]) (.inr (by simp))
      obtain ⟨h3, h4⟩ := tail_ok r h1 (fun z hz => hs z (by simp [hz])) (by simp at hl; omega)
      have hp := h3.ext.pos (posF_new hj)
      have hst : StepL c (.T (x :: r)) 0 x (.T r) := ⟨rfl, rfl, rfl⟩
      obtain ⟨h5, h6⟩ := h3.inv.arc hp h4 hst
      have hc := h3.count
      simp only [List.length_append, List.length_cons, List.length_nil] at hc
      refine ⟨⟨⟨h5.ok, h5.sound, fun u hu hn hP => ?_, h5.fin, h5.zero⟩, h2.trans (h3.ext.trans h6), ?_⟩, h6.pos hp⟩
      · by_cases e : u = .T (x :: r)
        · subst e
          intro x' y' v' hs'
          obtain ⟨rfl, rfl, rfl⟩ := hs'
          exact ⟨_, _, h6.pos hp, h6.pos h4, by simp⟩
        · exact h5.aux u hu hn (by simp [e, hP])
      · simp only [List.length_append, List.length_cons, List.length_nil]
        omega

theorem writes_ok {c : ChgM} {P : List Lab} {L : LS} (h : LInv c P L) {o i : List Int} {b : Int} (hg : GoodLab (.W o i b)) {j : Nat} (hj : posF (.S o i) L.labs = some j) :
    OpOK c P L (writesL L o i j b).1 ∧ posF (.W o i b) (writesL L o i j b).1.labs = some (writesL L o i j b).2 := by
  unfold writesL
  split
  · rename_i n hn
    exact ⟨⟨h, Ext.refl _, Nat.le_refl _⟩, hn⟩
  · rename_i hn
    obtain ⟨h1, h2⟩ := h.lab hn hg (fun o' i' b' e => by injection e with e1 e2 e3; subst e1 e2; exact List.mem_of_getElem? (posF_get hj)) (by intro e; cases e) (.W o i b :: P) (fun _ h => by simp [h]) (.inr (by simp))
    have hp : posF (.W o i b) (L.labs ++ [.W o i b]) = some L.labs.length := posF_new hn
    obtain ⟨h5, h6⟩ := h1.arc (u := .W o i b) (v := .S o i) (x := 0) (y := b) hp (h2.pos hj) ⟨rfl, rfl, rfl⟩
    refine ⟨⟨⟨h5.ok, h5.sound, fun u hu hn hP => ?_, h5.fin, h5.zero⟩, h2.trans h6, ?_⟩, hp⟩
    · by_cases e : u = .W o i b
      · subst e
        intro x' y' v' hs'
        obtain ⟨rfl, rfl, rfl⟩ := hs'
        exact ⟨_, _, hp, h2.pos hj, by simp⟩
      · exact h5.aux u hu hn (by simp [e, hP])
    · simp only [List.length_append, List.length_cons, List.length_nil]
      omega
end Go.Proofs.Ytglmlbmjppblbaa
