/- Plain: the machine of a change writes just what the change makes. -/
import Derived.Test.YtglmlbmjppblbaaQ
namespace Go.Proofs.Ytglmlbmjppblbaa
open Go.Kap

/-! ### What is cut off does not matter -/
theorem trunc_app (n : Nat) (o z : List Int) : truncL n (truncL n o ++ z) = truncL n (o ++ z) := by
  unfold truncL
  by_cases h : n < o.length
  · rw [if_pos h]
    have e : (o.drop (o.length - n)).length = n := by rw [List.length_drop]; omega
    by_cases hz : z = []
    · subst hz
      simp only [List.append_nil]
      rw [if_neg (by omega), if_pos h]
    · have hz1 : 0 < z.length := List.length_pos_iff.2 hz
      rw [if_pos (by rw [List.length_append]; omega), if_pos (by rw [List.length_append]; omega)]
      rw [List.length_append, List.length_append, e]
      rw [← List.drop_append_of_le_length (by omega), List.drop_drop]
      congr 1
      omega
  · rw [if_neg h]
theorem matches_trunc (n : Nat) (o : List Int) (s : SpotM) (i : Nat) (hi : i < n) : matchesM s (truncL n o) (((truncL n o).length : Int) - n + i) = matchesM s o ((o.length : Int) - n + i) := by
  unfold truncL
  by_cases h : n < o.length
  · rw [if_pos h]
    have e : (o.drop (o.length - n)).length = n := by rw [List.length_drop]; omega
    unfold matchesM
    rw [e, if_neg (by omega), if_neg (by omega)]
    congr 2
    rw [show ((n : Int) - n + i).toNat = i by omega, show ((o.length : Int) - n + i).toNat = o.length - n + i by omega]
    simp [List.getD, List.getElem?_drop]
  · rw [if_neg h]
theorem all_congr' {α : Type} {p q : α → Bool} : ∀ {l : List α}, (∀ x ∈ l, p x = q x) → l.all p = l.all q
  | [], _ => rfl
  | x :: l, h => by
    simp only [List.all_cons]
    rw [h x (by simp), all_congr' (fun y hy => h y (by simp [hy]))]
theorem turns_trunc (c : ChgM) (o i : List Int) : turnsM c (truncL c.left.length o) i = turnsM c o i := by
  unfold turnsM
  have : leftTo c.left (truncL c.left.length o) c.left.length = leftTo c.left o c.left.length := by
    unfold leftTo
    exact all_congr' fun j hj => matches_trunc _ _ _ _ (by simpa using hj)
  rw [this]
theorem stepN_trunc (c : ChgM) (o i : List Int) : stepN c (truncL c.left.length o) i = stepN c o i := by unfold stepN; rw [turns_trunc]
theorem stepO_trunc (c : ChgM) (o i : List Int) : stepO c (truncL c.left.length o) i = stepO c o i := by unfold stepO; rw [turns_trunc]
theorem restF_trunc (c : ChgM) : ∀ (f : Nat) (o i : List Int), restF c f (truncL c.left.length o) i = restF c f o i := by
  intro f
  induction f with
  | zero => intro o i; rfl
  | succ f ih =>
    intro o i
    simp only [restF]
    rw [stepN_trunc, stepO_trunc]
    rw [← ih (truncL c.left.length o ++ stepO c o i), trunc_app, ih]
theorem restM_trunc (c : ChgM) (o i : List Int) : restM c (truncL c.left.length o) i = restM c o i := restF_trunc c _ o i

/-! ### What is seen ahead -/
theorem turns_more (c : ChgM) (o i t : List Int) (h : need c ≤ i.length) : turnsM c o (i ++ t) = turnsM c o i := by
  unfold need at h
  unfold turnsM
  rw [List.take_append_of_le_length (by omega), List.length_append]
  have e1 : decide (c.frm.length ≤ i.length + t.length) = decide (c.frm.length ≤ i.length) := by simp; omega
  rw [e1]
  by_cases hr : c.right.length = 0
  · rw [hr]; simp
  · have : matchesM (c.right.getD 0 default) (i ++ t) c.frm.length = matchesM (c.right.getD 0 default) i c.frm.length := by
      unfold matchesM
      rw [if_neg (by rw [List.length_append]; omega), if_neg (by omega)]
      have : (i ++ t).getD (c.frm.length : Int).toNat 0 = i.getD (c.frm.length : Int).toNat 0 := by
        simp [List.getD, List.getElem?_append_left (show c.frm.length < i.length by omega)]
      rw [this]
    rw [this]
theorem stepN_more (c : ChgM) (o i t : List Int) (h : need c ≤ i.length) : stepN c o (i ++ t) = stepN c o i := by unfold stepN; rw [turns_more c o i t h]
theorem stepO_more (c : ChgM) (o i t : List Int) (h : need c ≤ i.length) (hi : 0 < i.length) : stepO c o (i ++ t) = stepO c o i := by
  unfold stepO; rw [turns_more c o i t h, List.take_append_of_le_length (by omega)]
theorem restM_step {c : ChgM} (h0 : 0 < c.frm.length) (o : List Int) {i : List Int} (hi : i ≠ []) : restM c o i = stepO c o i ++ restM c (o ++ stepO c o i) (i.drop (stepN c o i)) := by
  unfold restM
  have hp := List.length_pos_iff.2 hi
  have hs := stepN_pos c o i h0
  have hr : i.length = (i.length - 1) + 1 := by omega
  rw [hr]
  simp only [restF, if_neg hi]
  rw [restF_done c _ _ _ _ h0 (by rw [List.length_drop]; omega) (Nat.le_refl _)]

/-! ### Ways over labels -/
def sy1 (x : Int) : List Int := if x = 0 then [] else [x]
theorem sy1_zero : sy1 0 = [] := rfl
theorem sy1_pos {x : Int} (h : 1 ≤ x) : sy1 x = [x] := by unfold sy1; rw [if_neg (by omega)]
inductive PathL (c : ChgM) : Lab → List Int → List Int → Lab → Prop
  | nil (u : Lab) : PathL c u [] [] u
  | cons {u v t : Lab} {x y : Int} {i o : List Int} (h : StepL c u x y v) (k : PathL c v i o t) : PathL c u (sy1 x ++ i) (sy1 y ++ o) t
/-- What is written behind a label of what is read. -/
def valL (c : ChgM) : Lab → List Int → List Int
  | .S o i, t => restM c o (i ++ t)
  | .T l, _ => l
  | .W o i b, t => b :: restM c o (i ++ t)

theorem symT_val {c : ChgM} (h : OkF c) {o i : List Int} (hg : GoodLab (.S o i)) {x : Int} (hx : 1 ≤ x ∧ x ≤ c.kinds) (t : List Int) :
    GoodLab (symT c o i x).2 ∧ valL c (.S o i) (x :: t) = sy1 (symT c o i x).1 ++ valL c (symT c o i x).2 t := by
  have ha : i ++ x :: t = (i ++ [x]) ++ t := by simp
  unfold symT
  by_cases hw : (i ++ [x]).length < need c
  · rw [if_pos hw]
    refine ⟨good_wait h hg hx hw, ?_⟩
    simp only [valL, sy1_zero, List.nil_append]
    rw [restM_trunc, ha]
  · rw [if_neg hw]
    have hne : i ++ [x] ≠ [] := by simp
    have hpos : 0 < (i ++ [x]).length := by simp
    have hle := stepN_le c o (i ++ [x]) hne
    have hgo := good_go h hg hx
    have hm : Sy (i ++ [x]) := hg.2.1.app (Sy.one ⟨hx.1, by have := h.k4; omega⟩)
    have hsy := stepO_sy h o hm
    have key : restM c o ((i ++ [x]) ++ t) = stepO c o (i ++ [x]) ++ restM c (o ++ stepO c o (i ++ [x])) ((i ++ [x]).drop (stepN c o (i ++ [x])) ++ t) := by
      rw [restM_step h.f1 o (i := (i ++ [x]) ++ t) (by simp), stepO_more c o _ t (by omega) hpos, stepN_more c o _ t (by omega), List.drop_append_of_le_length hle]
    have hgW : ∀ b ∈ stepO c o (i ++ [x]), GoodLab (.W (truncL c.left.length (o ++ stepO c o (i ++ [x]))) ((i ++ [x]).drop (stepN c o (i ++ [x]))) b) := fun b hb => good_W h hg hx hb
    have hlen := stepO_len c o (i ++ [x]) h.t2
    generalize stepO c o (i ++ [x]) = w at *
    match w with
    | [] =>
      refine ⟨hgo, ?_⟩
      simp only [valL, sy1_zero, List.nil_append]
      rw [restM_trunc, ha, key]
      rfl
    | [a] =>
      refine ⟨hgo, ?_⟩
      simp only [valL]
      rw [restM_trunc, ha, key, sy1_pos (hsy a (by simp)).1]
    | [a, b] =>
      refine ⟨hgW b (by simp), ?_⟩
      simp only [valL]
      rw [restM_trunc, ha, key, sy1_pos (hsy a (by simp)).1]
      rfl
    | a :: b :: d :: r => simp at hlen

theorem path_T {c : ChgM} {u : Lab} {i o : List Int} {w : Lab} (h : PathL c u i o w) : ∀ l, u = .T l → w = .T [] → Sy l → i = [] ∧ o = l := by
  induction h with
  | nil u =>
    intro l e1 e2 _
    rw [e1] at e2
    injection e2 with e2
    exact ⟨rfl, e2.symm⟩
  | @cons u v t x y i o hs k ih =>
    intro l e1 e2 hl
    subst e1
    match l, hs, hl with
    | z :: r, hs, hl =>
      obtain ⟨rfl, rfl, rfl⟩ := hs
      obtain ⟨rfl, rfl⟩ := ih r rfl e2 (fun a ha => hl a (by simp [ha]))
      rw [sy1_zero, sy1_pos (hl y (by simp)).1]
      exact ⟨rfl, rfl⟩
theorem rest_sy {c : ChgM} (h : OkF c) {o i : List Int} (hg : GoodLab (.S o i)) : Sy (restM c o i) ∧ (restM c o i).length ≤ 4 := good_rest h hg

theorem path_sound {c : ChgM} (h : OkF c) {u : Lab} {i o : List Int} {w : Lab} (hp : PathL c u i o w) : w = .T [] → GoodLab u → o = valL c u i := by
  induction hp with
  | nil u =>
    intro e _
    subst e
    rfl
  | @cons u v t x y i o hs k ih =>
    intro e hg
    cases u with
    | S o' i' =>
      rcases hs with ⟨rfl, rfl, rfl⟩ | ⟨h1, h2, h3⟩
      · have hr := rest_sy h hg
        obtain ⟨rfl, rfl⟩ := path_T k _ rfl e hr.1
        simp [valL, sy1_zero]
      · obtain ⟨hg', hv⟩ := symT_val h hg ⟨h1, h2⟩ i
        rw [← h3] at hg' hv
        simp only at hg' hv
        rw [sy1_pos h1, List.singleton_append, hv, ← ih e hg']
    | T l =>
      obtain ⟨e1, e2⟩ := path_T (PathL.cons hs k) l rfl e hg.1
      rw [e1, e2]
      rfl
    | W o' i' b =>
      obtain ⟨rfl, rfl, rfl⟩ := hs
      obtain ⟨g1, g2, g3, g4, g5, g6⟩ := hg
      rw [ih e ⟨g1, g2, g3, g4⟩, sy1_zero, sy1_pos g5]
      rfl
theorem path_tail (c : ChgM) : ∀ (l : List Int), Sy l → PathL c (.T l) [] l (.T [])
  | [], _ => PathL.nil _
  | z :: r, h => by
    have hs : StepL c (.T (z :: r)) 0 z (.T r) := ⟨rfl, rfl, rfl⟩
    have := PathL.cons hs (path_tail c r (fun a ha => h a (by simp [ha])))
    rw [sy1_zero, sy1_pos (h z (by simp)).1] at this
    exact this
theorem path_comp {c : ChgM} (h : OkF c) : ∀ (t o i : List Int), GoodLab (.S o i) → (∀ x ∈ t, 1 ≤ x ∧ x ≤ c.kinds) → PathL c (.S o i) t (restM c o (i ++ t)) (.T [])
  | [], o, i, hg, _ => by
    have hs : StepL c (.S o i) 0 0 (.T (restM c o i)) := .inl ⟨rfl, rfl, rfl⟩
    have := PathL.cons hs (path_tail c _ (rest_sy h hg).1)
    rw [sy1_zero] at this
    simpa using this
  | x :: t, o, i, hg, ht => by
    have hx := ht x (by simp)
    have ht' : ∀ y ∈ t, 1 ≤ y ∧ y ≤ c.kinds := fun y hy => ht y (by simp [hy])
    obtain ⟨hg', hv⟩ := symT_val h hg hx t
    have hs : StepL c (.S o i) x (symT c o i x).1 (symT c o i x).2 := .inr ⟨hx.1, hx.2, rfl⟩
    have hk : PathL c (symT c o i x).2 t (valL c (symT c o i x).2 t) (.T []) := by
      generalize (symT c o i x).2 = v at *
      cases hv' : v with
      | S o' i' => subst hv'; exact path_comp h t o' i' hg' ht'
      | T l =>
        exfalso
        subst hv'
        rcases hs with ⟨e, _⟩ | ⟨_, _, e⟩
        · omega
        · unfold symT at e
          split at e
          · injection e with _ e; cases e
          · split at e <;> (injection e with _ e; cases e)
      | W o' i' b =>
        subst hv'
        obtain ⟨g1, g2, g3, g4, g5, g6⟩ := hg'
        have := PathL.cons (c := c) (u := .W o' i' b) (x := 0) (y := b) (v := .S o' i') ⟨rfl, rfl, rfl⟩ (path_comp h t o' i' ⟨g1, g2, g3, g4⟩ ht')
        rw [sy1_zero, sy1_pos g5] at this
        exact this
    have := PathL.cons hs hk
    rw [← hv, sy1_pos hx.1] at this
    exact this

/-! ### Machines -/
inductive PathM (arcs : List ArcM) : Int → List Int → List Int → Int → Prop
  | nil (s : Int) : PathM arcs s [] [] s
  | cons {a : ArcM} {i o : List Int} {t : Int} (h : a ∈ arcs) (k : PathM arcs a.t i o t) : PathM arcs a.f (sy1 a.i ++ i) (sy1 a.o ++ o) t
def Reads (arcs : List ArcM) (fins : List Int) (i o : List Int) : Prop := ∃ f ∈ fins, PathM arcs 0 i o f
/-- A right machine without costs. -/
structure GoodM (n : Nat) (arcs : List ArcM) (fins : List Int) : Prop where
  n1 : 1 ≤ n
  n2 : n ≤ 3000
  len : arcs.length ≤ 20000
  fin : fins.length ≤ 1
  arc : ∀ a ∈ arcs, (0 ≤ a.f ∧ a.f < n) ∧ (0 ≤ a.t ∧ a.t < n) ∧ (0 ≤ a.i ∧ a.i ≤ 60) ∧ (0 ≤ a.o ∧ a.o ≤ 60)
  fins : ∀ f ∈ fins, 0 ≤ f ∧ f < n

theorem step_small {c : ChgM} (h : OkF c) {u v : Lab} {x y : Int} (hg : GoodLab u) (hs : StepL c u x y v) : (0 ≤ x ∧ x ≤ 60) ∧ (0 ≤ y ∧ y ≤ 60) := by
  cases u with
  | S o i =>
    rcases hs with ⟨rfl, rfl, _⟩ | ⟨h1, h2, h3⟩
    · omega
    · have hk := h.k4
      refine ⟨by omega, ?_⟩
      have hm : Sy (i ++ [x]) := hg.2.1.app (Sy.one ⟨h1, by omega⟩)
      have hsy := stepO_sy h o hm
      unfold symT at h3
      split at h3
      · injection h3 with h3; omega
      · split at h3
        · injection h3 with h3; omega
        · rename_i a e
          injection h3 with h3
          have := hsy a (by rw [e]; simp)
          omega
        · rename_i a b r e
          injection h3 with h3
          have := hsy a (by rw [e]; simp)
          omega
  | T l =>
    match l, hs, hg with
    | z :: r, hs, hg =>
      obtain ⟨rfl, rfl, _⟩ := hs
      have := hg.1 y (by simp)
      omega
  | W o i b =>
    obtain ⟨rfl, rfl, _⟩ := hs
    obtain ⟨_, _, _, _, g5, g6⟩ := hg
    omega

theorem net_good {c : ChgM} (h : OkF c) {L : LS} (hi : LInv c [] L) (hl : L.arcs.length ≤ 16000) : GoodM L.labs.length L.arcs L.finals := by
  have h46 := hi.ok.len
  have h0 := (List.getElem?_eq_some_iff.1 hi.zero).1
  refine ⟨by omega, by omega, by omega, ?_, fun a ha => ?_, fun f hf => ?_⟩
  · rw [hi.fin]; split <;> simp
  · obtain ⟨f, t, u, v, e1, e2, h3, h4, h5⟩ := hi.sound a ha
    have hf := (List.getElem?_eq_some_iff.1 h3).1
    have ht := (List.getElem?_eq_some_iff.1 h4).1
    have hg := hi.ok.good u (List.mem_of_getElem? h3)
    have := step_small h hg h5
    rw [e1, e2]
    exact ⟨by omega, by omega, this.1, this.2⟩
  · rw [hi.fin] at hf
    split at hf
    · rename_i j hj
      simp at hf
      have := posF_lt hj
      omega
    · simp at hf

theorem lab_of_arcs {c : ChgM} {L : LS} (hi : LInv c [] L) {s t : Int} {i o : List Int} (h : PathM L.arcs s i o t) : ∀ {f : Nat} {u : Lab}, s = f → L.labs[f]? = some u → ∃ (g : Nat) (v : Lab), t = g ∧ L.labs[g]? = some v ∧ PathL c u i o v := by
  induction h with
  | nil s => intro f u e hu; exact ⟨f, u, e, hu, PathL.nil _⟩
  | @cons a i o t ha k ih =>
    intro f u e hu
    obtain ⟨f', t', u', v', e1, e2, h3, h4, h5⟩ := hi.sound a ha
    have : f = f' := by omega
    subst this
    rw [hu] at h3
    injection h3 with h3
    subst h3
    obtain ⟨g, v, hg, hv, hp⟩ := ih e2 h4
    exact ⟨g, v, hg, hv, PathL.cons h5 hp⟩
theorem arcs_of_lab {c : ChgM} {L : LS} (hd : ∀ u ∈ L.labs, DoneL c L u) {u v : Lab} {i o : List Int} (h : PathL c u i o v) : ∀ {f : Nat}, posF u L.labs = some f → ∃ g : Nat, posF v L.labs = some g ∧ PathM L.arcs f i o g := by
  induction h with
  | nil u => intro f hf; exact ⟨f, hf, PathM.nil _⟩
  | @cons u v t x y i o hs k ih =>
    intro f hf
    obtain ⟨f', t', h1, h2, h3⟩ := hd u (List.mem_of_getElem? (posF_get hf)) x y v hs
    rw [hf] at h1
    injection h1 with h1
    subst h1
    obtain ⟨g, hg, hp⟩ := ih h2
    exact ⟨g, hg, PathM.cons (a := ⟨f, t', x, y⟩) h3 hp⟩

/-- What the machine of a change writes. -/
theorem net_reads {c : ChgM} (h : OkF c) {L : LS} (hi : LInv c [] L) (hd : ∀ u ∈ L.labs, DoneL c L u) {text : List Int} (ht : ∀ x ∈ text, 1 ≤ x ∧ x ≤ c.kinds) (out : List Int) :
    Reads L.arcs L.finals text out ↔ out = applyM c text := by
  have h0 : GoodLab (.S [] []) := ⟨Sy.nil, Sy.nil, by simp, by simp⟩
  have hap : applyM c text = restM c [] text := by
    unfold applyM restM
    rw [appF_rest]; rfl
  constructor
  · rintro ⟨f, hf, hp⟩
    obtain ⟨g, v, hg, hv, hq⟩ := lab_of_arcs hi hp (f := 0) (u := .S [] []) rfl hi.zero
    have hvt : v = .T [] := by
      rw [hi.fin] at hf
      split at hf
      · rename_i j hj
        simp at hf
        have : g = j := by omega
        subst this
        have := posF_get hj
        rw [hv] at this
        injection this
      · simp at hf
    have := path_sound h hq hvt h0
    rw [this, hap]
    rfl
  · rintro rfl
    have hp := path_comp h text [] [] h0 ht
    obtain ⟨g, hg, hq⟩ := arcs_of_lab hd hp (f := 0) (posF_inj hi.ok.nodup hi.zero)
    refine ⟨g, ?_, ?_⟩
    · rw [hi.fin, hg]
      simp
    · rw [hap]
      exact hq

/-! ### One machine through another one -/
/-- A pair's doings are there. -/
def DoneP (A B X : List ArcM) (l : List (Int × Int)) (i j : Int) : Prop :=
  ∀ k : Nat, posF (i, j) l = some k →
    (∀ f ∈ A, f.f = i → f.o = 0 → ∃ n : Nat, posF (f.t, j) l = some n ∧ (⟨k, n, f.i, 0⟩ : ArcM) ∈ X) ∧
    (∀ f ∈ A, f.f = i → f.o ≠ 0 → ∀ g ∈ B, g.f = j → g.i = f.o → ∃ n : Nat, posF (f.t, g.t) l = some n ∧ (⟨k, n, f.i, g.o⟩ : ArcM) ∈ X) ∧
    (∀ g ∈ B, g.f = j → g.i = 0 → ∃ n : Nat, posF (i, g.t) l = some n ∧ (⟨k, n, 0, g.o⟩ : ArcM) ∈ X)

theorem sy1_inj {x y : Int} {l m : List Int} (h : sy1 x ++ l = y :: m) (hx : x ≠ 0) : x = y ∧ l = m := by
  unfold sy1 at h
  rw [if_neg hx] at h
  simpa using h
theorem through_nil {A B X : List ArcM} {l : List (Int × Int)} (hd : ∀ p ∈ l, DoneP A B X l p.1 p.2) (s : Int) {t t' : Int} {o p : List Int} (hB : PathM B t o p t') :
    o = [] → ∀ k : Nat, posF (s, t) l = some k → ∃ n : Nat, posF (s, t') l = some n ∧ PathM X k [] p n := by
  induction hB with
  | nil t => intro _ k hk; exact ⟨k, hk, PathM.nil _⟩
  | @cons g o' p' t' hg kB ihB =>
    intro ho k hk
    have hi0 : g.i = 0 ∧ o' = [] := by
      unfold sy1 at ho
      split at ho
      · rename_i e; exact ⟨e, by simpa using ho⟩
      · simp at ho
    obtain ⟨_, _, h3⟩ := hd (s, g.f) (List.mem_of_getElem? (posF_get hk)) k hk
    obtain ⟨n, hn, hx⟩ := h3 g hg rfl hi0.1
    obtain ⟨m, hm, hp⟩ := ihB hi0.2 n hn
    exact ⟨m, hm, PathM.cons (a := ⟨k, n, 0, g.o⟩) hx hp⟩
theorem through_path {A B X : List ArcM} {l : List (Int × Int)} (hd : ∀ p ∈ l, DoneP A B X l p.1 p.2) {s s' : Int} {i o : List Int} (hA : PathM A s i o s') :
    ∀ {t t' : Int} {p : List Int}, PathM B t o p t' → ∀ k : Nat, posF (s, t) l = some k → ∃ n : Nat, posF (s', t') l = some n ∧ PathM X k i p n := by
  induction hA with
  | nil s => exact fun hB k hk => through_nil hd s hB rfl k hk
  | @cons a i o s' ha kA ih =>
    intro t t' p hB
    by_cases hao : a.o = 0
    · intro k hk
      rw [hao, sy1_zero, List.nil_append] at hB
      obtain ⟨h1, _, _⟩ := hd (a.f, t) (List.mem_of_getElem? (posF_get hk)) k hk
      obtain ⟨n, hn, hx⟩ := h1 a ha rfl hao
      obtain ⟨m, hm, hp⟩ := ih hB n hn
      exact ⟨m, hm, PathM.cons (a := ⟨k, n, a.i, 0⟩) hx hp⟩
    · generalize ho : sy1 a.o ++ o = q at hB
      induction hB with
      | nil t =>
        unfold sy1 at ho
        rw [if_neg hao] at ho
        simp at ho
      | @cons g o' p' t' hg kB ihB =>
        intro k hk
        by_cases hgi : g.i = 0
        · obtain ⟨_, _, h3⟩ := hd (a.f, g.f) (List.mem_of_getElem? (posF_get hk)) k hk
          obtain ⟨n, hn, hx⟩ := h3 g hg rfl hgi
          rw [hgi, sy1_zero, List.nil_append] at ho
          obtain ⟨m, hm, hp⟩ := ihB ho n hn
          exact ⟨m, hm, PathM.cons (a := ⟨k, n, 0, g.o⟩) hx hp⟩
        · have e : a.o = g.i ∧ o = o' := by
            have e0 : sy1 g.i = [g.i] := by unfold sy1; rw [if_neg hgi]
            rw [e0, List.singleton_append] at ho
            exact sy1_inj ho hao
          obtain ⟨_, h2, _⟩ := hd (a.f, g.f) (List.mem_of_getElem? (posF_get hk)) k hk
          obtain ⟨n, hn, hx⟩ := h2 a ha rfl hao g hg rfl e.1.symm
          rw [← e.2] at kB
          obtain ⟨m, hm, hp⟩ := ih kB n hn
          exact ⟨m, hm, PathM.cons (a := ⟨k, n, a.i, g.o⟩) hx hp⟩
end Go.Proofs.Ytglmlbmjppblbaa
