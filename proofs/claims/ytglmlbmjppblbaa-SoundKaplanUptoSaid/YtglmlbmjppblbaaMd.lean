/- machine.Through: the walk. -/
import Derived.Test.YtglmlbmjppblbaaMb
import Derived.Test.YtglmlbmjppblbaaMc
namespace Go.Proofs.Ytglmlbmjppblbaa
open Go.RowKit Go.Kap Go.Maps
set_option maxRecDepth 1000000

theorem Fan.fr {t : TB} {w w' : World} {base g n : Nat} {vs : List Value} {arcs : List ArcM} (h : Fan w base g n vs arcs) (hf : Fr t w.heap.size w w') (hb : t.p < base ∧ t.mb < base ∧ t.b9 < base ∧ t.lb < base) : Fan w' base g n vs arcs := by
  obtain ⟨h1, h2, h3, h4⟩ := hb
  have hlo := h.lo
  refine ⟨h.lo, (hf.block g (lt_heap h.blk) (by omega) (by omega) (by omega) (by omega)).trans h.blk, h.len, fun j hj => (h.row j hj).of_heap fun k hk => ?_, h.apart⟩
  obtain ⟨k1, k2⟩ := (h.row j hj).lt k hk
  exact hf.block k k2 (by omega) (by omega) (by omega) (by omega)

def ThruPost (A C : List ArcM) (fa fc : List Int) (w : World) (en : Ending) (w' : World) : Prop :=
  New w w' ∧ (en = .returned (.tuple #[.agg #[.int .i64 0, .slice none 0 0, .slice none 0 0], .int .i64 7]) ∨
    ∃ (n : Nat) (va vf : Value) (arcs : List ArcM) (fins : List Int), en = .returned (.tuple #[.agg #[.int .i64 n, va, vf], .int .i64 0]) ∧ Row w' w.heap.size 72 5 va arcs.length (arcCells arcs) ∧ Row w' w.heap.size 75 2 vf fins.length (finCells fins) ∧
      GoodM n arcs fins ∧ ∀ text x y, Reads A fa text x → Reads C fc x y → Reads arcs fins text y)

theorem ThW.init {w : World} {t : TB} (h1 : w.heap[t.p]? = some (.cells #[.int .i64 1, .slice none 0 0, .slice none 0 0, .bool false] 79 (0, 0))) (h2 : w.heap[t.b7]? = some (.cells #[.pointer (some ⟨t.p, 0, none⟩)] 77 (0, 0)))
    (h3 : w.heap[t.b8]? = some (.cells #[.map (some t.mb)] 81 (0, 0))) (h4 : w.heap[t.b9]? = some (.cells #[.slice (some ⟨t.lb, 0, none⟩) 1 1] 82 (0, 0))) (h5 : w.heap[t.lb]? = some (.cells #[.int .i64 0, .int .i64 0] 80 (0, 0)))
    (h6 : MapI prK w 3 t.mb 1 (fun y => if y = (0, 0) then some 0 else none)) : ThW w w.heap.size t (.slice none 0 0) (.slice none 0 0) (.slice (some ⟨t.lb, 0, none⟩) 1 1) [(0, 0)] [] [] := by
  refine ⟨⟨lt_heap h1, lt_heap h2, lt_heap h3, lt_heap h4, h6.lt, lt_heap h5, Nat.le_refl _⟩, h1, h2, h3, h4, Row.nil_ _ _ _ _, Row.nil_ _ _ _ _, ⟨rfl, .inr ⟨t.lb, 0, 1, _, rfl, Nat.zero_le _, h5, Nat.le_refl _, by unfold maxLen; omega, by simp, rfl⟩⟩, fun k hk => ?_, ?_⟩
  · simp [Value.ownBlock] at hk
    exact .inl hk.symm
  · have e : (fun y => if y = ((0 : Int), (0 : Int)) then some (0 : Int) else none) = posI [(0, 0)] := by
      funext y
      unfold posI posF
      by_cases h : y = (0, 0)
      · simp [h]
      · simp [h, posF]
    rw [e] at h6
    exact h6
/-- The outer loop. -/
def ThO (B : Nat) (t : TB) (A C : List ArcM) (nA nC : Nat) (w5 : World) (k : Nat) (w : World) : Prop :=
  ∃ (va vf vl : Value) (l : List (Int × Int)) (X : List ArcM), ThW w B t va vf vl l X [] ∧ PInv A C nA nC l X k ∧ k ≤ l.length ∧ l.length ≤ 3000 ∧ X.length ≤ 20000 ∧ Fr t B w5 w

/-- In the midst of a pair. -/
structure ThS (B : Nat) (t : TB) (A C : List ArcM) (nA nC : Nat) (w5 : World) (kN iN jN c : Nat) (va vf vl : Value) (l : List (Int × Int)) (X : List ArcM) (w : World) : Prop where
  thw : ThW w B t va vf vl l X []
  inv : PInv A C nA nC l X kN
  at_ : l[kN]? = some ((iN : Int), (jN : Int))
  bl : l.length ≤ 3000 + c
  bx : X.length ≤ 20000 + c
  fr : Fr t B w5 w
section
variable {B : Nat} {t : TB} {A C : List ArcM} {nA nC : Nat} {w5 : World} {kN iN jN c : Nat} {va vf vl : Value} {l : List (Int × Int)} {X : List ArcM} {w w' : World}
theorem ThS.new_ (h : ThS B t A C nA nC w5 kN iN jN c va vf vl l X w) (hn : New w w') : ThS B t A C nA nC w5 kN iN jN c va vf vl l X w' := ⟨h.thw.new_ hn, h.inv, h.at_, h.bl, h.bx, h.fr.trans (Fr.of_new hn h.thw.size)⟩
theorem ThS.mono (h : ThS B t A C nA nC w5 kN iN jN c va vf vl l X w) {c' : Nat} (hc : c ≤ c') : ThS B t A C nA nC w5 kN iN jN c' va vf vl l X w := ⟨h.thw, h.inv, h.at_, by have := h.bl; omega, by have := h.bx; omega, h.fr⟩
theorem ThS.lt (h : ThS B t A C nA nC w5 kN iN jN c va vf vl l X w) : kN < l.length := (List.getElem?_eq_some_iff.1 h.at_).1
/-- A pair is numbered, and an arc put in. -/
theorem ThS.step (h : ThS B t A C nA nC w5 kN iN jN c va vf vl l X w) {x : Int × Int} (hx : (0 ≤ x.1 ∧ x.1 < nA) ∧ (0 ≤ x.2 ∧ x.2 < nC)) {i o : Int} (hi : 0 ≤ i ∧ i ≤ 60) (ho : 0 ≤ o ∧ o ≤ 60) {va' vf' vl' : Value} (hT : ThW w' B t va' vf' vl' (atM l x).1 (X ++ [⟨kN, (atM l x).2, i, o⟩]) []) (hF : Fr t B w w') :
    ThS B t A C nA nC w5 kN iN jN (c + 1) va' vf' vl' (atM l x).1 (X ++ [⟨kN, (atM l x).2, i, o⟩]) w' := by
  obtain ⟨⟨m, hm⟩, hp, hl, _, _⟩ := atM_ext l x
  have hlt := h.lt
  refine ⟨hT, h.inv.step hx hlt hi ho (by omega), ?_, by have := h.bl; omega, by have := h.bx; simp; omega, h.fr.trans hF⟩
  rw [hm, List.getElem?_append_left hlt]
  exact h.at_
theorem P1.step {j : Int} {f : ArcM} (h : P1 C X l kN j f) (x : Int × Int) (Y : List ArcM) : P1 C (X ++ Y) (atM l x).1 kN j f := by
  obtain ⟨⟨m, hm⟩, _⟩ := atM_ext l x
  rw [hm]; exact h.ext m Y
theorem P2.step {f g : ArcM} (h : P2 X l kN f g) (x : Int × Int) (Y : List ArcM) : P2 (X ++ Y) (atM l x).1 kN f g := by
  obtain ⟨⟨m, hm⟩, _⟩ := atM_ext l x
  rw [hm]; exact h.ext m Y
theorem P3.step {i : Int} {g : ArcM} (h : P3 X l kN i g) (x : Int × Int) (Y : List ArcM) : P3 (X ++ Y) (atM l x).1 kN i g := by
  obtain ⟨⟨m, hm⟩, _⟩ := atM_ext l x
  rw [hm]; exact h.ext m Y
theorem all_succ {α : Type} {l : List α} {k : Nat} (d : α) (hk : k < l.length) {p : α → Prop} (h : ∀ a ∈ l.take k, p a) (h1 : p (l.getD k d)) : ∀ a ∈ l.take (k + 1), p a := by
  intro a ha
  rw [List.take_succ_eq_append_getElem hk, List.mem_append] at ha
  rcases ha with ha | ha
  · exact h a ha
  · simp at ha
    subst ha
    simpa [List.getD, hk] using h1
theorem p1_zero {f : ArcM} (h0 : f.o = 0) {j : Int} {n : Nat} (hp : posF (f.t, j) l = some n) (hx : (⟨kN, n, f.i, 0⟩ : ArcM) ∈ X) : P1 C X l kN j f := ⟨fun _ => ⟨n, hp, hx⟩, fun h => absurd h0 h⟩
theorem p1_all {f : ArcM} (h0 : f.o ≠ 0) (h : ∀ g ∈ rowOf C jN, P2 X l kN f g) : P1 C X l kN jN f := ⟨fun e => absurd e h0, fun _ g hg e1 e2 => h g (mem_rowOf.2 ⟨hg, e1⟩) e2⟩
end
theorem Loc.cell {t : TB} {va vf vl : Value} {w : World} {b : Nat} {c : Array Value} {ty : TypeId} (h : Loc t va vf vl w b c ty) (k : Nat) : w.cell? ⟨b, k, none⟩ = c[k]? := by simp [World.cell?, h.blk]
/-- What the statements that put an arc in read. -/
def RdA (t : TB) (b : Nat) (f : ArcM) (w : World) : Prop := w.cell? ⟨t.b7, 0, none⟩ = some (.pointer (some ⟨t.p, 0, none⟩)) ∧ w.cell? ⟨b, 1, none⟩ = some (.int .i64 f.t) ∧ w.cell? ⟨b, 2, none⟩ = some (.int .i64 f.i) ∧ w.cell? ⟨b, 3, none⟩ = some (.int .i64 f.o) ∧ w.cell? ⟨b, 4, none⟩ = some (.int .i64 0)
theorem rdA {B : Nat} {t : TB} {va vf vl : Value} {l : List (Int × Int)} {X : List ArcM} {w : World} {b : Nat} {f : ArcM} (hT : ThW w B t va vf vl l X []) (hL : Loc t va vf vl w b #[.int .i64 f.f, .int .i64 f.t, .int .i64 f.i, .int .i64 f.o, .int .i64 0] 72) : RdA t b f w :=
  ⟨hT.cell7, hL.cell 1, hL.cell 2, hL.cell 3, hL.cell 4⟩
/-- The arcs of the first machine. -/
def ThF (B : Nat) (t : TB) (A C : List ArcM) (nA nC : Nat) (w5 : World) (kN iN jN u : Nat) (w : World) : Prop :=
  ∃ (va vf vl : Value) (l : List (Int × Int)) (X : List ArcM), ThS B t A C nA nC w5 kN iN jN (u * ((rowOf C jN).length + 1)) va vf vl l X w ∧ ∀ f ∈ (rowOf A iN).take u, P1 C X l kN jN f
/-- The arcs of the second one behind one of the first. -/
def ThG (B : Nat) (t : TB) (A C : List ArcM) (nA nC : Nat) (w5 : World) (kN iN jN u bf : Nat) (f : ArcM) (v : Nat) (w : World) : Prop :=
  ∃ (va vf vl : Value) (l : List (Int × Int)) (X : List ArcM), ThS B t A C nA nC w5 kN iN jN (u * ((rowOf C jN).length + 1) + v) va vf vl l X w ∧ (∀ f ∈ (rowOf A iN).take u, P1 C X l kN jN f) ∧ (∀ g ∈ (rowOf C jN).take v, P2 X l kN f g) ∧
    Loc t va vf vl w bf #[.int .i64 f.f, .int .i64 f.t, .int .i64 f.i, .int .i64 f.o, .int .i64 0] 72
/-- The arcs of the second one that read nothing. -/
def ThH (B : Nat) (t : TB) (A C : List ArcM) (nA nC : Nat) (w5 : World) (kN iN jN v : Nat) (w : World) : Prop :=
  ∃ (va vf vl : Value) (l : List (Int × Int)) (X : List ArcM), ThS B t A C nA nC w5 kN iN jN ((rowOf A iN).length * ((rowOf C jN).length + 1) + v) va vf vl l X w ∧ (∀ f ∈ rowOf A iN, P1 C X l kN jN f) ∧ ∀ g ∈ (rowOf C jN).take v, P3 X l kN iN g

/-- The finals. -/
def ThE (B : Nat) (t : TB) (w5 : World) (l : List (Int × Int)) (X : List ArcM) (fa fc : List Int) (u : Nat) (w : World) : Prop :=
  ∃ (va vf vl : Value) (fins : List Int), ThW w B t va vf vl l X fins ∧ Fr t B w5 w ∧ fins.length ≤ u ∧ (∀ f ∈ fins, 0 ≤ f ∧ f < l.length) ∧ ∀ x ∈ fa.take u, ∀ y ∈ fc, ∀ n : Nat, posF (x, y) l = some n → (n : Int) ∈ fins
def ThE2 (B : Nat) (t : TB) (w5 : World) (l : List (Int × Int)) (X : List ArcM) (fc : List Int) (f : Int) (bf v : Nat) (w : World) : Prop :=
  ∃ (va vf vl : Value) (fins : List Int), ThW w B t va vf vl l X fins ∧ Fr t B w5 w ∧ fins.length ≤ v ∧ (∀ f ∈ fins, 0 ≤ f ∧ f < l.length) ∧ (∀ y ∈ fc.take v, ∀ n : Nat, posF (f, y) l = some n → (n : Int) ∈ fins) ∧ Loc t va vf vl w bf #[.int .i64 f, .int .i64 0] 75
set_option maxHeartbeats 8000000 in
theorem through_any (n n' : Nat) (hA hB : MachH) (A C : List ArcM) (fa fc : List Int) (w : World) (h : MachV w n hA A fa) (h' : MachV w n' hB C fc) (hprod : A.length * C.length ≤ 40000) :
    Calls Try.prog 11 #[machVal n hA, machVal n' hB] w (ThruPost A C fa fc w) := by
  obtain ⟨A1, na, ca, F1, nf, cf⟩ := hA
  obtain ⟨A2, na', ca', F2, nf', cf'⟩ := hB
  have hg := h.good
  have hg' := h'.good
  show Calls Try.prog 11 #[.agg #[.int .i64 n, .slice A1 na ca, .slice F1 nf cf], .agg #[.int .i64 n', .slice A2 na' ca', .slice F2 nf' cf']] w (ThruPost A C fa fc w)
  have hn0 : New w (((w.alloc (.cells #[.int .i64 n, .slice A1 na ca, .slice F1 nf cf] 35)).alloc (.cells #[.int .i64 n', .slice A2 na' ca', .slice F2 nf' cf'] 35)).alloc (.cells #[.int .i64 0, .slice none 0 0, .slice none 0 0] 35)) := (((New.refl w).alloc _).alloc _).alloc _
  have h0 := h.new_ hn0
  have h0' := h'.new_ hn0
  have HM := Lib.hid h
  have HM' := Lib.hid h'
  have HG := Lib.hid hg
  have HG' := Lib.hid hg'
  have HPR := Lib.hid hprod
  have h1 := hg.n1
  have h2 := hg.n2
  have h1' := hg'.n1
  have h2' := hg'.n2
  have hmm := @run_makeMap Try.prog
  clear h h' hg hg' hprod
  go_enter Try.func11, Try.ntmps11
  go_wp2_with fail
  refine (both_any n n' ⟨A1, na, ca, F1, nf, cf⟩ ⟨A2, na', ca', F2, nf', cf'⟩ C fc h0 h0').mono ?_
  rintro en w1 ⟨rfl, hw1⟩
  have hn1 := New.trans hn0 hw1
  have hsz1 : w.heap.size + 3 ≤ w1.heap.size := by have := hw1.size; simp at this; omega
  have hbx : ∀ wr, New w1 wr → (wr.cell? ⟨w.heap.size, 0, none⟩ = some (.int .i64 n) ∧ wr.cell? ⟨w.heap.size, 1, none⟩ = some (.slice A1 na ca) ∧ wr.cell? ⟨w.heap.size, 2, none⟩ = some (.slice F1 nf cf)) ∧
      (wr.cell? ⟨w.heap.size + 1, 0, none⟩ = some (.int .i64 n') ∧ wr.cell? ⟨w.heap.size + 1, 1, none⟩ = some (.slice A2 na' ca') ∧ wr.cell? ⟨w.heap.size + 1, 2, none⟩ = some (.slice F2 nf' cf')) := by
    intro wr hw
    have := New.trans hw1 hw
    refine ⟨⟨?_, ?_, ?_⟩, ?_, ?_, ?_⟩ <;> (rw [this.cell (by first | (simp; done) | (simp; omega))]; simp [go_sem])
  have HBX := Lib.hid hbx
  have hr1 : w1.heap[w.heap.size + 1 + 1]? = some (.cells #[.int .i64 0, .slice none 0 0, .slice none 0 0] 35 (0, 0)) := by
    rw [hw1.block _ (by simp)]
    have := heap_alloc_new ((w.alloc (.cells #[.int .i64 n, .slice A1 na ca, .slice F1 nf cf] 35)).alloc (.cells #[.int .i64 n', .slice A2 na' ca', .slice F2 nf' cf'] 35)) (.cells #[.int .i64 0, .slice none 0 0, .slice none 0 0] 35)
    simpa using this
  have HR1 := Lib.hid hr1
  clear hbx h0 h0' hr1
  obtain ⟨⟨b0, b1, b2⟩, d0, d1, d2⟩ := HBX.out w1 (New.refl _)
  have w0I : wfI 0 := wfI_of (by decide) (by decide)
  have hmd := MapI.made prK ((w1.alloc (.cells #[.int .i64 0, .slice none 0 0, .slice none 0 0, .bool false] 79)).alloc (.cells #[.pointer (some ⟨w1.heap.size, 0, none⟩)] 77)) 3
  have hsm : ((w1.alloc (.cells #[.int .i64 0, .slice none 0 0, .slice none 0 0, .bool false] 79)).alloc (.cells #[.pointer (some ⟨w1.heap.size, 0, none⟩)] 77)).heap.size = w1.heap.size + 2 := by simp
  rw [hsm] at hmd
  have HMD := Lib.hid hmd
  clear hmd hsm
  go_wp2_with (refine wpList_insert_mapI rfl _ _ _ 81 rfl law80 Try.underlying81 Try.underlying3 rfl HMD.out (by unfold maxLen; omega) ((0 : Int), (0 : Int)) rfl ⟨w0I, w0I⟩ 0 rfl (by decide) ?_)
  intro w2 hm2 hg2
  have hisM : ∃ es clock, ((((w1.alloc (.cells #[.int .i64 0, .slice none 0 0, .slice none 0 0, .bool false] 79)).alloc (.cells #[.pointer (some ⟨w1.heap.size, 0, none⟩)] 77)).alloc (.map #[] 0))).heap[w1.heap.size + 1 + 1]? = some (.map es clock) := HMD.out.isMap
  have hn12 : New w1 w2 := New.grown ((((New.refl w1).alloc _).alloc _).alloc _) hg2 (fun k hk => by cases hk; omega)
  have hp2 : w2.heap[w1.heap.size]? = some (.cells #[.int .i64 0, .slice none 0 0, .slice none 0 0, .bool false] 79 (0, 0)) := grown_mapc hisM hg2 (by
    rw [Below.heap_alloc _ _ _ (by simp; omega), Below.heap_alloc _ _ _ (by simp)]
    exact heap_alloc_new w1 _)
  have h72 : w2.heap[w1.heap.size + 1]? = some (.cells #[.pointer (some ⟨w1.heap.size, 0, none⟩)] 77 (0, 0)) := grown_mapc hisM hg2 (by
    rw [Below.heap_alloc _ _ _ (by simp)]
    have := heap_alloc_new (w1.alloc (.cells #[.int .i64 0, .slice none 0 0, .slice none 0 0, .bool false] 79)) (.cells #[.pointer (some ⟨w1.heap.size, 0, none⟩)] 77)
    simpa using this)
  have hsz2 : w1.heap.size + 3 ≤ w2.heap.size := by have := hg2.size; simp at this; omega
  have HM2 := Lib.hid hm2
  clear hm2 hg2 hisM
  generalize hmb : w1.heap.size + 1 + 1 = mb at *
  have hmb' : mb = w1.heap.size + 2 := by omega
  clear hmb
  have HMB := Lib.hid hmb'
  clear hmb'
  obtain ⟨⟨b0', b1', b2'⟩, d0', d1', d2'⟩ := HBX.out w2 hn12
  have x0 : w2.cell? ⟨w1.heap.size, 0, none⟩ = some (.int .i64 0) := by simp [World.cell?, hp2]
  have x0f : w2.frozen? ⟨w1.heap.size, 0, none⟩ = false := by simp [World.frozen?, hp2]
  have x7 : w2.cell? ⟨w1.heap.size + 1, 0, none⟩ = some (.pointer (some ⟨w1.heap.size, 0, none⟩)) := by simp [World.cell?, h72]
  have HP2 := Lib.hid hp2
  have H72 := Lib.hid h72
  have hlt2 : w1.heap.size + 1 < w2.heap.size := by omega
  clear hp2 h72 b0 b1 b2 d0 d1 d2
  have hn23 : New w2 (((w2.alloc (.cells #[.map (some mb)] 81)).alloc (.cells #[.int .i64 0, .int .i64 0] 80)).alloc (.cells #[.slice (some ⟨w2.heap.size + 1, 0, none⟩) 1 1] 82)) := (((New.refl w2).alloc _).alloc _).alloc _
  have y0 := hn23.cell_ x0
  have y0f := hn23.free_ x0 x0f
  have y7 := hn23.cell_ x7
  have HN23 := Lib.hid hn23
  clear x0 x0f x7 hn23
  go_wp2
  obtain ⟨t, ht⟩ : ∃ t : TB, t = ⟨w1.heap.size, w1.heap.size + 1, w2.heap.size, w2.heap.size + 1 + 1, mb, w2.heap.size + 1⟩ := ⟨_, rfl⟩
  have t1 : w1.heap.size = t.p := by rw [ht]
  have t2 : w1.heap.size + 1 = t.b7 := by rw [ht]
  have t3 : w2.heap.size = t.b8 := by rw [ht]
  have t4 : w2.heap.size + 1 + 1 = t.b9 := by rw [ht]
  have t5 : mb = t.mb := by rw [ht]
  have t6 : w2.heap.size + 1 = t.lb := by rw [ht]
  obtain ⟨w4, hw4⟩ : ∃ w4, w4 = ((((w2.alloc (.cells #[.map (some mb)] 81)).alloc (.cells #[.int .i64 0, .int .i64 0] 80)).alloc (.cells #[.slice (some ⟨w2.heap.size + 1, 0, none⟩) 1 1] 82)).setCell ⟨w1.heap.size, 0, none⟩ (.int .i64 1)) := ⟨_, rfl⟩
  rw [← hw4]
  have hb3 := (HN23.out.block _ (lt_heap HP2.out)).trans HP2.out
  have f1 : w4.heap[t.p]? = some (.cells #[.int .i64 1, .slice none 0 0, .slice none 0 0, .bool false] 79 (0, 0)) := by rw [hw4, ← t1, blk_set hb3]; rfl
  have f2 : w4.heap[t.b7]? = some (.cells #[.pointer (some ⟨t.p, 0, none⟩)] 77 (0, 0)) := by
    rw [hw4, ← t2, ← t1]
    exact set_cells ((HN23.out.block _ (lt_heap H72.out)).trans H72.out) (q := ⟨w1.heap.size, 0, none⟩) hb3 (by decide) _
  have f3 : w4.heap[t.b8]? = some (.cells #[.map (some t.mb)] 81 (0, 0)) := by
    rw [hw4, ← t3, ← t5]
    refine set_cells ?_ (q := ⟨w1.heap.size, 0, none⟩) hb3 (by decide) _
    rw [Below.heap_alloc _ _ _ (by simp; omega), Below.heap_alloc _ _ _ (by simp)]
    exact heap_alloc_new w2 _
  have f5 : w4.heap[t.lb]? = some (.cells #[.int .i64 0, .int .i64 0] 80 (0, 0)) := by
    rw [hw4, ← t6]
    refine set_cells ?_ (q := ⟨w1.heap.size, 0, none⟩) hb3 (by decide) _
    rw [Below.heap_alloc _ _ _ (by simp)]
    have := heap_alloc_new (w2.alloc (.cells #[.map (some mb)] 81)) (.cells #[.int .i64 0, .int .i64 0] 80)
    simpa using this
  have f4 : w4.heap[t.b9]? = some (.cells #[.slice (some ⟨t.lb, 0, none⟩) 1 1] 82 (0, 0)) := by
    rw [hw4, ← t4, ← t6]
    refine set_cells ?_ (q := ⟨w1.heap.size, 0, none⟩) hb3 (by decide) _
    have := heap_alloc_new ((w2.alloc (.cells #[.map (some mb)] 81)).alloc (.cells #[.int .i64 0, .int .i64 0] 80)) (.cells #[.slice (some ⟨w2.heap.size + 1, 0, none⟩) 1 1] 82)
    simpa using this
  have f6 : MapI prK w4 3 t.mb 1 (fun y => if y = (0, 0) then some 0 else none) := by
    rw [hw4, ← t5]
    exact (HM2.out.new_ HN23.out).setCell (p := ⟨w1.heap.size, 0, none⟩) hb3 _
  have hn14 : New w1 w4 := by
    rw [hw4]
    exact (New.trans hn12 HN23.out).setCell (p := ⟨w1.heap.size, 0, none⟩) (Nat.le_refl _) _
  have hB4 : t.p < w4.heap.size ∧ t.mb < w4.heap.size ∧ t.b9 < w4.heap.size ∧ t.lb < w4.heap.size := ⟨lt_heap f1, f6.lt, lt_heap f4, lt_heap f5⟩
  have hB1 : w.heap.size + 3 ≤ t.p ∧ w.heap.size + 3 ≤ t.mb ∧ w.heap.size + 3 ≤ t.b9 ∧ w.heap.size + 3 ≤ t.lb := by have := HMB.out; omega
  rw [t4, t6, t3, t2, t1, t5]
  have K1 := Lib.hid f1
  have K2 := Lib.hid f2
  have K3 := Lib.hid f3
  have K4 := Lib.hid f4
  have K5 := Lib.hid f5
  have K6 := Lib.hid f6
  clear hw4 hb3 f1 f2 f3 f4 f5 f6 y0 y0f y7 ht t1 t2 t3 t4 t5 t6 b0' b1' b2' d0' d1' d2' hsz2 hlt2
  have hfa : ∀ wx, New w wx → Calls Try.prog 25 #[.agg #[.int .i64 n, .slice A1 na ca, .slice F1 nf cf]] wx (FanPost n A wx) := fun wx hx => from_any n ⟨A1, na, ca, F1, nf, cf⟩ A fa wx (HM.out.new_ hx)
  have hfb : ∀ wx, New w wx → Calls Try.prog 25 #[.agg #[.int .i64 n', .slice A2 na' ca', .slice F2 nf' cf']] wx (FanPost n' C wx) := fun wx hx => from_any n' ⟨A2, na', ca', F2, nf', cf'⟩ C fc wx (HM'.out.new_ hx)
  have HFA := Lib.hid hfa
  have HFB := Lib.hid hfb
  have hbx4 := HBX.out w4.drew (hn14.drew_)
  clear hfa hfb
  go_region_held3 (fun wx => (wx.cell? ⟨w.heap.size, 0, none⟩ = some (.int .i64 n) ∧ wx.cell? ⟨w.heap.size, 1, none⟩ = some (.slice A1 na ca) ∧ wx.cell? ⟨w.heap.size, 2, none⟩ = some (.slice F1 nf cf)) ∧
      (wx.cell? ⟨w.heap.size + 1, 0, none⟩ = some (.int .i64 n') ∧ wx.cell? ⟨w.heap.size + 1, 1, none⟩ = some (.slice A2 na' ca') ∧ wx.cell? ⟨w.heap.size + 1, 2, none⟩ = some (.slice F2 nf' cf'))) (first | assumption)
    (first
      | (go_at_call 25; (with_reducible refine (HFA.out _ (New.trans hn1 hn14.drew_)).mono ?_); rintro en wa ⟨gA, vsA, rfl, hfA, hna⟩; have hcx := HBX.out wa (New.trans hn14.drew_ hna))
      | (go_at_call 25; (with_reducible refine (HFB.out _ (New.trans (New.trans hn1 hn14.drew_) hna)).mono ?_); rintro en wb ⟨gB, vsB, rfl, hfB, hnb⟩; have hcy := HBX.out wb (New.trans (New.trans hn14.drew_ hna) hnb))
      | fail)
  have hn45 : New w4 wb := New.trans (New.trans ((New.refl w4).drew_) hna) hnb
  have hT0 : ThW wb wb.heap.size t (.slice none 0 0) (.slice none 0 0) (.slice (some ⟨t.lb, 0, none⟩) 1 1) [(0, 0)] [] [] :=
    ThW.init ((hn45.block _ (lt_heap K1.out)).trans K1.out) ((hn45.block _ (lt_heap K2.out)).trans K2.out) ((hn45.block _ (lt_heap K3.out)).trans K3.out) ((hn45.block _ (lt_heap K4.out)).trans K4.out) ((hn45.block _ (lt_heap K5.out)).trans K5.out) (K6.out.new_ hn45)
  have hfa5 : Fan wb w4.heap.size gA n vsA A := hfA.new_ hnb
  have hfb5 : Fan wb wa.heap.size gB n' vsB C := hfB
  have hw4a : w4.heap.size ≤ wa.heap.size := hna.size
  have hw5 : New w wb := New.trans (New.trans hn1 hn14) hn45
  obtain ⟨w5, rfl⟩ : ∃ w5 : World, w5 = wb := ⟨_, rfl⟩
  obtain ⟨B, hB⟩ : ∃ B, B = w5.heap.size := ⟨_, rfl⟩
  have hwB := hB1
  have hres : w5.heap[w.heap.size + 1 + 1]? = some (.cells #[.int .i64 0, .slice none 0 0, .slice none 0 0] 35 (0, 0)) := ((New.trans hn14 hn45).block _ (lt_heap HR1.out)).trans HR1.out
  have hbx5 := HBX.out w5 (New.trans hn14 hn45)
  have hsz15 := (New.trans hn14 hn45).size
  have hbox : ∀ wr, Fr t B w5 wr → ((wr.cell? ⟨w.heap.size, 0, none⟩ = some (.int .i64 n) ∧ wr.cell? ⟨w.heap.size, 1, none⟩ = some (.slice A1 na ca) ∧ wr.cell? ⟨w.heap.size, 2, none⟩ = some (.slice F1 nf cf)) ∧
      (wr.cell? ⟨w.heap.size + 1, 0, none⟩ = some (.int .i64 n') ∧ wr.cell? ⟨w.heap.size + 1, 1, none⟩ = some (.slice A2 na' ca') ∧ wr.cell? ⟨w.heap.size + 1, 2, none⟩ = some (.slice F2 nf' cf'))) ∧ wr.heap[w.heap.size + 1 + 1]? = some (.cells #[.int .i64 0, .slice none 0 0, .slice none 0 0] 35 (0, 0)) := by
    intro wr hf
    have hb0 := hf.block w.heap.size (by omega) (by omega) (by omega) (by omega) (by omega)
    have hb1 := hf.block (w.heap.size + 1) (by omega) (by omega) (by omega) (by omega) (by omega)
    have hb2 := hf.block (w.heap.size + 1 + 1) (by omega) (by omega) (by omega) (by omega) (by omega)
    obtain ⟨⟨g1, g2, g3⟩, g4, g5, g6⟩ := hbx5
    exact ⟨⟨⟨(World.cell?_of_block (a := ⟨w.heap.size, 0, none⟩) hb0).trans g1, (World.cell?_of_block (a := ⟨w.heap.size, 1, none⟩) hb0).trans g2, (World.cell?_of_block (a := ⟨w.heap.size, 2, none⟩) hb0).trans g3⟩,
      (World.cell?_of_block (a := ⟨w.heap.size + 1, 0, none⟩) hb1).trans g4, (World.cell?_of_block (a := ⟨w.heap.size + 1, 1, none⟩) hb1).trans g5, (World.cell?_of_block (a := ⟨w.heap.size + 1, 2, none⟩) hb1).trans g6⟩, hb2.trans hres⟩
  have HRO := Lib.hid (show ThO B t A C n n' w5 0 w5 from ⟨_, _, _, _, _, by rw [hB]; exact hT0, PInv.start h1 h1', by simp, by simp, by simp, Fr.refl _ _ _⟩)
  have HT0 := Lib.hid hT0
  have HF5 := Lib.hid hfa5
  have HG5 := Lib.hid hfb5
  have HBO := Lib.hid hbox
  have HBB := Lib.hid hB
  have HW5 := Lib.hid hw5
  clear hT0 hfa5 hfb5 hbox hB hw5 hfA hfB hna hnb hn45 hcx hcy hbx4 hres hbx5
  go_wp2
  go_loopw [13] (fun i wr => ∃ kN : Nat, i = .int .i64 kN ∧ ThO B t A C n n' w5 kN wr) (fun i _ => 3001 - (intOf i).toNat)
  case atStart => exact ⟨0, rfl, HRO.out⟩
  case round =>
    obtain ⟨kN, rfl, va, vf, vl, l, X, hT, hP, hk, hl, hx, hF⟩ := hrel
    have c9 := hT.cell9.1
    obtain ⟨Al, cl, rfl, hcl1, hcl2, _⟩ := hT.lst.len
    by_cases hlt : kN < l.length
    · obtain ⟨gl, ol, rfl, _, hgl, hlc⟩ := hT.lst.cell (by omega)
      obtain ⟨x, hxe⟩ : ∃ x, l[kN]? = some x := ⟨l[kN], List.getElem?_eq_getElem hlt⟩
      obtain ⟨⟨xi1, xi2⟩, xj1, xj2⟩ := hP.okp x (List.mem_of_getElem? hxe)
      have hgd : l.getD kN (0, 0) = x := by simp [List.getD, hxe]
      obtain ⟨e0, e1⟩ := prCells_get l kN hlt
      rw [hgd] at e0 e1
      obtain ⟨xi, xj⟩ := x
      dsimp only at xi1 xi2 xj1 xj2 e0 e1
      obtain ⟨iN, rfl⟩ := Int.eq_ofNat_of_zero_le xi1
      obtain ⟨jN, rfl⟩ := Int.eq_ofNat_of_zero_le xj1
      have l0 : wr.cell? ⟨gl, ol + kN * 2, none⟩ = some (.int .i64 iN) := by rw [hlc _ (by omega)]; exact e0
      have l1 : wr.cell? ⟨gl, ol + kN * 2 + 1, none⟩ = some (.int .i64 jN) := by rw [Nat.add_assoc, hlc _ (by omega)]; exact e1
      have hki : (0 : Int) ≤ (kN : Int) := by omega
      have hkl : (kN : Int) < (l.length : Int) := by omega
      have hS0 := Lib.hid (show ThS B t A C n n' w5 kN iN jN 0 va vf (.slice (some ⟨gl, ol, none⟩) l.length cl) l X wr from ⟨hT, hP, hxe, hl, hx, hF⟩)
      have hin : iN < n := by omega
      have hjn : jN < n' := by omega
      have hfanA := HF5.out.fr (t := t) (by rw [← HBB.out]; exact hF) hB4
      have hfanB := HG5.out.fr (t := t) (by rw [← HBB.out]; exact hF) (by omega)
      obtain ⟨Aa, ka, hva, hka1, hka2, _⟩ := (hfanA.row iN hin).len
      obtain ⟨Ab, kb, hvb, hkb1, hkb2, _⟩ := (hfanB.row jN hjn).len
      have HVA := Lib.hid hva
      have HVB := Lib.hid hvb
      have hfcA := hfanA.cell hin
      rw [hva] at hfcA
      obtain ⟨mA, hmA⟩ : ∃ m, m = (rowOf A iN).length := ⟨_, rfl⟩
      obtain ⟨mB, hmB⟩ : ∃ m, m = (rowOf C jN).length := ⟨_, rfl⟩
      have hAl : mA ≤ A.length := by rw [hmA]; exact rowOf_len _ _
      have hCl : mB ≤ C.length := by rw [hmB]; exact rowOf_len _ _
      have hA2 := HG.out.len
      have hC2 := HG'.out.len
      have hDb : mA * (mB + 1) ≤ 60000 := by
        have e1 : mA * mB ≤ A.length * C.length := Nat.mul_le_mul hAl hCl
        have e2 := HPR.out
        rw [Nat.mul_add]
        omega
      rw [← hmA] at hfcA hka1
      rw [← hmB] at hkb1
      have HMA := Lib.hid hmA
      have HMB := Lib.hid hmB
      have hgA := lt_heap hfanA.blk
      have HF0 := Lib.hid (show ∀ nq, ThF B t A C n n' w5 kN iN jN 0 (wr.drewN nq) from fun nq => ⟨_, _, _, _, _, by rw [Nat.zero_mul]; exact hS0.out.new_ ((New.refl _).drewN nq), by simp⟩)
      obtain ⟨wo, rfl⟩ : ∃ wo : World, wo = wr := ⟨_, rfl⟩
      clear hT hP hF hlc hgd e0 e1 hxe xi1 xj1 hmA hmB hva hvb hfanA hfanB
      go_wp2
      go_quiet (fail)
      go_wp2
      go_loopw [72] (fun u wr => ∃ uN : Nat, u = .int .i64 uN ∧ uN ≤ mA ∧ ThF B t A C n n' w5 kN iN jN uN wr) (fun u _ => mA - (intOf u).toNat)
      case atStart => exact ⟨0, rfl, Nat.zero_le _, HF0.out _⟩
      case round =>
        obtain ⟨uN, rfl, hum, va2, vf2, vl2, l2, X2, hS, hp1⟩ := hrel
        have hfanA := HF5.out.fr (t := t) (by rw [← HBB.out]; exact hS.fr) hB4
        have hfanB := HG5.out.fr (t := t) (by rw [← HBB.out]; exact hS.fr) (by omega)
        have hfcB := hfanB.cell hjn
        rw [HVB.out] at hfcB
        rw [← HMB.out] at hfcB
        have hgB := lt_heap hfanB.blk
        by_cases hul : uN < mA
        · have hrow := hfanA.row iN hin
          rw [HVA.out] at hrow
          obtain ⟨A', c', eA, hav⟩ := Row.arcsV hrow
          injection eA with eA _ eC
          subst eA eC
          obtain ⟨ba, oa, rfl, hc⟩ := hav.2.2 (by rw [← HMA.out]; omega)
          have hul' : uN < (rowOf A iN).length := by rw [← HMA.out]; exact hul
          have hcj := hc uN hul'
          obtain ⟨hma, hmf⟩ := mem_rowOf.1 (getD_mem hul' arcD)
          have hbd := HG.out.arc _ hma
          obtain ⟨f, hfe⟩ : ∃ f, f = (rowOf A iN).getD uN arcD := ⟨_, rfl⟩
          rw [← hfe] at hcj hma hmf hbd
          have HFE := Lib.hid hfe
          obtain ⟨ff, ft, fi, fo⟩ := f
          obtain ⟨c0, c1, c2, c3, c4⟩ := hcj
          dsimp only at c0 c1 c2 c3 c4 hmf hbd
          obtain ⟨_, ⟨ft1, ft2⟩, ⟨fi1, fi2⟩, ⟨fo1, fo2⟩⟩ := hbd
          subst hmf
          have HS := Lib.hid hS
          have HP1 := Lib.hid hp1
          have hnA := new_alloc wr (.cells #[.int .i64 iN, .int .i64 ft, .int .i64 fi, .int .i64 fo, .int .i64 0] 72)
          have hLoc := Loc.fresh hS.thw #[.int .i64 iN, .int .i64 ft, .int .i64 fi, .int .i64 fo, .int .i64 0] 72
          have hum2 : uN * (mB + 1) + (mB + 1) ≤ mA * (mB + 1) := by
            have := Nat.mul_le_mul_right (mB + 1) (show uN + 1 ≤ mA by omega)
            rw [Nat.add_mul] at this
            omega
          clear hc hav hrow hfe hma hS hp1 hfanA hfanB
          have hbl := HS.out.bl
          have hbx := HS.out.bx
          rw [← HMB.out] at hbl hbx
          have hl6 : l2.length ≤ 1000000 := by omega
          have hx6 : X2.length ≤ 1000000 := by omega
          have hsm := Nat.add_mul uN 1 (mB + 1)
          rw [HMB.out] at hsm
          have HSM := Lib.hid hsm
          clear hbl hbx hsm
          by_cases hfo : fo = 0
          · subst hfo
            have hnd : New wr (wr.alloc (.cells #[.int .i64 iN, .int .i64 ft, .int .i64 fi, .int .i64 0, .int .i64 0] 72)).drew := New.drew_ hnA
            have hSd := HS.out.new_ hnd
            have hLd := hLoc.new_ ((New.refl _).drew_)
            have hat := at_any ft jN ⟨wfI_of ft1 (by omega), wfI_of (by omega) (by omega)⟩ hSd.thw hl6
            have hr0 := rdA (f := ⟨iN, ft, fi, 0⟩) hSd.thw hLd
            unfold RdA at hr0
            have HSD := Lib.hid hSd
            clear hSd
            go_wp2
            go_region_held3 (fun wx => wx.cell? ⟨t.b7, 0, none⟩ = some (.pointer (some ⟨t.p, 0, none⟩)) ∧ wx.cell? ⟨wr.heap.size, 1, none⟩ = some (.int .i64 ft) ∧ wx.cell? ⟨wr.heap.size, 2, none⟩ = some (.int .i64 fi) ∧ wx.cell? ⟨wr.heap.size, 3, none⟩ = some (.int .i64 0) ∧ wx.cell? ⟨wr.heap.size, 4, none⟩ = some (.int .i64 0)) (first | assumption)
              (first
                | (go_at_call 27; (with_reducible refine hat.mono ?_); rintro en wa3 ⟨rfl, ⟨va3, vf3, vl3, hT3, hL3⟩, hF3⟩; have hLa := hL3 _ _ _ hLd; have hcx := rdA (f := ⟨iN, ft, fi, 0⟩) hT3 hLa; unfold RdA at hcx)
                | (go_at_call 28; (with_reducible refine (mArc_any _ _ _ _ hT3 hx6).mono ?_); rintro en wb3 ⟨rfl, ⟨va4, vf4, vl4, hT4, hL4⟩, hF4⟩; have hLb := hL4 _ _ _ hLa; have hcy := rdA (f := ⟨iN, ft, fi, 0⟩) hT4 hLb; unfold RdA at hcy)
                | fail)
            have hS4 := HSD.out.step (x := (ft, (jN : Int))) ⟨⟨ft1, ft2⟩, by simp, by simp; omega⟩ ⟨fi1, fi2⟩ ⟨by omega, by omega⟩ hT4 (hF3.trans hF4)
            have HNF : Hid (ThF B t A C n n' w5 kN iN jN (uN + 1) wb3) := by
              obtain ⟨_, hpp, _⟩ := atM_ext l2 (ft, (jN : Int))
              refine ⟨_, _, _, _, _, hS4.mono (by have := HSM.out; omega), all_succ arcD hul' (fun a ha => (HP1.out a ha).step _ _) ?_⟩
              rw [← HFE.out]
              exact p1_zero rfl hpp (by simp)
            clear hS4 hT3 hL3 hF3 hLa hcx hT4 hL4 hF4 hLb hcy hat hr0
            go_wp2
            go_roundw
            case rel => exact ⟨uN + 1, by go_num, by omega, HNF.out⟩
            case measure => simp [intOf]; omega
          · have hfo1 : (fo == 0) = false := by simpa using hfo
            have HFO := Lib.hid hfo
            have HG0 := Lib.hid (show ThG B t A C n n' w5 kN iN jN uN wr.heap.size ⟨iN, ft, fi, fo⟩ 0 (wr.alloc (.cells #[.int .i64 iN, .int .i64 ft, .int .i64 fi, .int .i64 fo, .int .i64 0] 72)) from
              ⟨_, _, _, _, _, HS.out.new_ hnA, HP1.out, by simp, hLoc⟩)
            obtain ⟨wf, rfl⟩ : ∃ wf : World, wf = wr := ⟨_, rfl⟩
            clear hLoc hfo hl6 hx6
            go_wp2
            go_loopw [96] (fun v wr => ∃ vN : Nat, v = .int .i64 vN ∧ vN ≤ mB ∧ ThG B t A C n n' w5 kN iN jN uN wf.heap.size ⟨iN, ft, fi, fo⟩ vN wr) (fun v _ => mB - (intOf v).toNat)
            case atStart => exact ⟨0, rfl, Nat.zero_le _, HG0.out⟩
            case round =>
              obtain ⟨vN, rfl, hvm, va5, vf5, vl5, l5, X5, hS5, hp5, hp25, hL5⟩ := hrel
              have HS5 := Lib.hid hS5
              have HP5 := Lib.hid hp5
              have HP25 := Lib.hid hp25
              have HL5 := Lib.hid hL5
              by_cases hvl : vN < mB
              · have hfanB2 := HG5.out.fr (t := t) (by rw [← HBB.out]; exact hS5.fr) (by omega)
                have hrow := hfanB2.row jN hjn
                rw [HVB.out] at hrow
                obtain ⟨A', c', eA, hav⟩ := Row.arcsV hrow
                injection eA with eA _ eC
                subst eA eC
                obtain ⟨bg, og, rfl, hc⟩ := hav.2.2 (by rw [← HMB.out]; omega)
                have hvl' : vN < (rowOf C jN).length := by rw [← HMB.out]; exact hvl
                have hcj := hc vN hvl'
                obtain ⟨hma, hmf⟩ := mem_rowOf.1 (getD_mem hvl' arcD)
                have hbd := HG'.out.arc _ hma
                obtain ⟨g, hge⟩ : ∃ g, g = (rowOf C jN).getD vN arcD := ⟨_, rfl⟩
                rw [← hge] at hcj hma hmf hbd
                have HGE := Lib.hid hge
                obtain ⟨gf, gt, gi, go⟩ := g
                obtain ⟨c0, c1, c2, c3, c4⟩ := hcj
                dsimp only at c0 c1 c2 c3 c4 hmf hbd
                obtain ⟨_, ⟨gt1, gt2⟩, ⟨gi1, gi2⟩, ⟨go1, go2⟩⟩ := hbd
                subst hmf
                have hbl := HS5.out.bl
                have hbx := HS5.out.bx
                rw [← HMB.out] at hbl hbx
                have hl6 : l5.length ≤ 1000000 := by omega
                have hx6 : X5.length ≤ 1000000 := by omega
                have hnG := new_alloc wr (.cells #[.int .i64 jN, .int .i64 gt, .int .i64 gi, .int .i64 go, .int .i64 0] 72)
                have hLg := Loc.fresh hS5.thw #[.int .i64 jN, .int .i64 gt, .int .i64 gi, .int .i64 go, .int .i64 0] 72
                have hLf := hL5.new_ hnG
                have r3 := hL5.cell 3
                simp at r3
                have hwfl := lt_heap hL5.blk
                clear hfanB2 hrow hav hc hge hma hbl hbx hS5 hp5 hp25 hL5
                by_cases hgo : gi = fo
                · have hnd : New wr (wr.alloc (.cells #[.int .i64 jN, .int .i64 gt, .int .i64 gi, .int .i64 go, .int .i64 0] 72)).drew := New.drew_ hnG
                  subst hgo
                  have hSd := HS5.out.new_ hnd
                  have hLfd := hLf.new_ ((New.refl _).drew_)
                  have hLgd := hLg.new_ ((New.refl _).drew_)
                  have hat := at_any ft gt ⟨wfI_of ft1 (by omega), wfI_of gt1 (by omega)⟩ hSd.thw hl6
                  have hr0 := And.intro (rdA (f := ⟨iN, ft, fi, gi⟩) hSd.thw hLfd) (rdA (f := ⟨jN, gt, gi, go⟩) hSd.thw hLgd)
                  unfold RdA at hr0
                  have hw0 : IntKind.i64.wrap 0 = 0 := by decide
                  have HSD := Lib.hid hSd
                  have HLF := Lib.hid hLfd
                  have HLG := Lib.hid hLgd
                  clear hSd hLf hLg hLfd hLgd
                  go_wp2
                  go_region_held3 (fun wx => (wx.cell? ⟨t.b7, 0, none⟩ = some (.pointer (some ⟨t.p, 0, none⟩)) ∧ wx.cell? ⟨wf.heap.size, 1, none⟩ = some (.int .i64 ft) ∧ wx.cell? ⟨wf.heap.size, 2, none⟩ = some (.int .i64 fi) ∧ wx.cell? ⟨wf.heap.size, 3, none⟩ = some (.int .i64 gi) ∧ wx.cell? ⟨wf.heap.size, 4, none⟩ = some (.int .i64 0)) ∧
                      (wx.cell? ⟨t.b7, 0, none⟩ = some (.pointer (some ⟨t.p, 0, none⟩)) ∧ wx.cell? ⟨wr.heap.size, 1, none⟩ = some (.int .i64 gt) ∧ wx.cell? ⟨wr.heap.size, 2, none⟩ = some (.int .i64 gi) ∧ wx.cell? ⟨wr.heap.size, 3, none⟩ = some (.int .i64 go) ∧ wx.cell? ⟨wr.heap.size, 4, none⟩ = some (.int .i64 0))) (first | assumption)
                    (first
                      | (go_at_call 27; (with_reducible refine hat.mono ?_); rintro en wa3 ⟨rfl, ⟨va3, vf3, vl3, hT3, hL3⟩, hF3⟩; have hLa := hL3 _ _ _ HLF.out; have hLa' := hL3 _ _ _ HLG.out; have hcx := And.intro (rdA (f := ⟨iN, ft, fi, gi⟩) hT3 hLa) (rdA (f := ⟨jN, gt, gi, go⟩) hT3 hLa'); unfold RdA at hcx)
                      | (go_at_call 28; (with_reducible refine (mArc_any _ _ _ _ hT3 hx6).mono ?_); rintro en wb3 ⟨rfl, ⟨va4, vf4, vl4, hT4, hL4⟩, hF4⟩; have hLb := hL4 _ _ _ hLa; have hLb' := hL4 _ _ _ hLa'; have hcy := And.intro (rdA (f := ⟨iN, ft, fi, gi⟩) hT4 hLb) (rdA (f := ⟨jN, gt, gi, go⟩) hT4 hLb'); unfold RdA at hcy)
                      | fail)
                  have hS6 := HSD.out.step (x := (ft, gt)) ⟨⟨ft1, ft2⟩, gt1, gt2⟩ ⟨fi1, fi2⟩ ⟨go1, go2⟩ hT4 (hF3.trans hF4)
                  have HNG : Hid (ThG B t A C n n' w5 kN iN jN uN wf.heap.size ⟨iN, ft, fi, gi⟩ (vN + 1) wb3) := by
                    obtain ⟨_, hpp, _⟩ := atM_ext l5 (ft, gt)
                    refine ⟨_, _, _, _, _, hS6, fun a ha => (HP5.out a ha).step _ _, all_succ arcD hvl' (fun a ha => (HP25.out a ha).step _ _) ?_, hLb⟩
                    rw [← HGE.out]
                    exact fun _ => ⟨_, hpp, by simp⟩
                  clear hS6 hT3 hL3 hF3 hLa hLa' hcx hT4 hL4 hF4 hLb hLb' hcy hat hr0
                  go_wp2
                  go_roundw
                  case rel => exact ⟨vN + 1, by go_num, by omega, HNG.out⟩
                  case measure => simp [intOf]; omega
                · have hgo1 : (gi == fo) = false := by simpa using hgo
                  have HNG : Hid (ThG B t A C n n' w5 kN iN jN uN wf.heap.size ⟨iN, ft, fi, fo⟩ (vN + 1) (wr.alloc (.cells #[.int .i64 jN, .int .i64 gt, .int .i64 gi, .int .i64 go, .int .i64 0] 72))) := by
                    refine ⟨_, _, _, _, _, (HS5.out.mono (by omega)).new_ hnG, HP5.out, all_succ arcD hvl' HP25.out ?_, hLf⟩
                    rw [← HGE.out]
                    exact fun e => absurd e hgo
                  clear hLf hLg hgo
                  go_wp2
                  go_roundw
                  case rel => exact ⟨vN + 1, by go_num, by omega, HNG.out⟩
                  case measure => simp [intOf]; omega
              · have hve : (rowOf C jN).length ≤ vN := by rw [← HMB.out]; omega
                have HNF : Hid (ThF B t A C n n' w5 kN iN jN (uN + 1) wr) := by
                  refine ⟨_, _, _, _, _, HS5.out.mono (by have := HSM.out; have := HMB.out; omega), all_succ arcD hul' HP5.out ?_⟩
                  rw [← HFE.out]
                  refine p1_all HFO.out ?_
                  have := HP25.out
                  rwa [List.take_of_length_le hve] at this
                clear hS5 hp5 hp25 hL5
                go_wp2
                go_roundw
                case rel => exact ⟨uN + 1, by go_num, by omega, HNF.out⟩
                case measure => simp [intOf]; omega
        · have hue : (rowOf A iN).length ≤ uN := by rw [← HMA.out]; omega
          have hum' : uN = (rowOf A iN).length := by rw [← HMA.out]; omega
          have HH0 := Lib.hid (show ThH B t A C n n' w5 kN iN jN 0 wr from ⟨_, _, _, _, _, by rw [← hum']; exact hS, by rwa [List.take_of_length_le hue] at hp1, by simp⟩)
          obtain ⟨wf, rfl⟩ : ∃ wf : World, wf = wr := ⟨_, rfl⟩
          clear hS hp1 hfanA hfanB hum' hue
          go_wp2
          go_loopw [130] (fun v wr => ∃ vN : Nat, v = .int .i64 vN ∧ vN ≤ mB ∧ ThH B t A C n n' w5 kN iN jN vN wr) (fun v _ => mB - (intOf v).toNat)
          case atStart => exact ⟨0, rfl, Nat.zero_le _, HH0.out⟩
          case round =>
            obtain ⟨vN, rfl, hvm, va5, vf5, vl5, l5, X5, hS5, hp5, hp35⟩ := hrel
            have HS5 := Lib.hid hS5
            have HP5 := Lib.hid hp5
            have HP35 := Lib.hid hp35
            by_cases hvl : vN < mB
            · have hfanB2 := HG5.out.fr (t := t) (by rw [← HBB.out]; exact hS5.fr) (by omega)
              have hrow := hfanB2.row jN hjn
              rw [HVB.out] at hrow
              obtain ⟨A', c', eA, hav⟩ := Row.arcsV hrow
              injection eA with eA _ eC
              subst eA eC
              obtain ⟨bg, og, rfl, hc⟩ := hav.2.2 (by rw [← HMB.out]; omega)
              have hvl' : vN < (rowOf C jN).length := by rw [← HMB.out]; exact hvl
              have hcj := hc vN hvl'
              obtain ⟨hma, hmf⟩ := mem_rowOf.1 (getD_mem hvl' arcD)
              have hbd := HG'.out.arc _ hma
              obtain ⟨g, hge⟩ : ∃ g, g = (rowOf C jN).getD vN arcD := ⟨_, rfl⟩
              rw [← hge] at hcj hma hmf hbd
              have HGE := Lib.hid hge
              obtain ⟨gf, gt, gi, go⟩ := g
              obtain ⟨c0, c1, c2, c3, c4⟩ := hcj
              dsimp only at c0 c1 c2 c3 c4 hmf hbd
              obtain ⟨_, ⟨gt1, gt2⟩, ⟨gi1, gi2⟩, ⟨go1, go2⟩⟩ := hbd
              subst hmf
              have hbl := HS5.out.bl
              have hbx := HS5.out.bx
              rw [← HMB.out, ← HMA.out] at hbl hbx
              have hl6 : l5.length ≤ 1000000 := by omega
              have hx6 : X5.length ≤ 1000000 := by omega
              have hnG := new_alloc wr (.cells #[.int .i64 jN, .int .i64 gt, .int .i64 gi, .int .i64 go, .int .i64 0] 72)
              have hLg := Loc.fresh hS5.thw #[.int .i64 jN, .int .i64 gt, .int .i64 gi, .int .i64 go, .int .i64 0] 72
              clear hfanB2 hrow hav hc hge hma hbl hbx hS5 hp5 hp35
              by_cases hgi : gi = 0
              · subst hgi
                have hnd : New wr (wr.alloc (.cells #[.int .i64 jN, .int .i64 gt, .int .i64 0, .int .i64 go, .int .i64 0] 72)).drew := New.drew_ hnG
                have hSd := HS5.out.new_ hnd
                have hLgd := hLg.new_ ((New.refl _).drew_)
                have hat := at_any iN gt ⟨wfI_of (by omega) (by omega), wfI_of gt1 (by omega)⟩ hSd.thw hl6
                have hr0 := rdA (f := ⟨jN, gt, 0, go⟩) hSd.thw hLgd
                unfold RdA at hr0
                have HSD := Lib.hid hSd
                have HLG := Lib.hid hLgd
                clear hSd hLg hLgd
                go_wp2
                go_region_held3 (fun wx => wx.cell? ⟨t.b7, 0, none⟩ = some (.pointer (some ⟨t.p, 0, none⟩)) ∧ wx.cell? ⟨wr.heap.size, 1, none⟩ = some (.int .i64 gt) ∧ wx.cell? ⟨wr.heap.size, 2, none⟩ = some (.int .i64 0) ∧ wx.cell? ⟨wr.heap.size, 3, none⟩ = some (.int .i64 go) ∧ wx.cell? ⟨wr.heap.size, 4, none⟩ = some (.int .i64 0)) (first | assumption)
                  (first
                    | (go_at_call 27; (with_reducible refine hat.mono ?_); rintro en wa3 ⟨rfl, ⟨va3, vf3, vl3, hT3, hL3⟩, hF3⟩; have hLa := hL3 _ _ _ HLG.out; have hcx := rdA (f := ⟨jN, gt, 0, go⟩) hT3 hLa; unfold RdA at hcx)
                    | (go_at_call 28; (with_reducible refine (mArc_any _ _ _ _ hT3 hx6).mono ?_); rintro en wb3 ⟨rfl, ⟨va4, vf4, vl4, hT4, hL4⟩, hF4⟩; have hLb := hL4 _ _ _ hLa; have hcy := rdA (f := ⟨jN, gt, 0, go⟩) hT4 hLb; unfold RdA at hcy)
                    | fail)
                have hS6 := HSD.out.step (x := ((iN : Int), gt)) ⟨⟨by simp, by simp; omega⟩, gt1, gt2⟩ ⟨by omega, by omega⟩ ⟨go1, go2⟩ hT4 (hF3.trans hF4)
                have HNH : Hid (ThH B t A C n n' w5 kN iN jN (vN + 1) wb3) := by
                  obtain ⟨_, hpp, _⟩ := atM_ext l5 ((iN : Int), gt)
                  refine ⟨_, _, _, _, _, hS6, fun a ha => (HP5.out a ha).step _ _, all_succ arcD hvl' (fun a ha => (HP35.out a ha).step _ _) ?_⟩
                  rw [← HGE.out]
                  exact fun _ => ⟨_, hpp, by simp⟩
                clear hS6 hT3 hL3 hF3 hLa hcx hT4 hL4 hF4 hLb hcy hat hr0
                go_wp2
                go_roundw
                case rel => exact ⟨vN + 1, by go_num, by omega, HNH.out⟩
                case measure => simp [intOf]; omega
              · have hgi1 : (gi == 0) = false := by simpa using hgi
                have HNH : Hid (ThH B t A C n n' w5 kN iN jN (vN + 1) (wr.alloc (.cells #[.int .i64 jN, .int .i64 gt, .int .i64 gi, .int .i64 go, .int .i64 0] 72))) := by
                  refine ⟨_, _, _, _, _, (HS5.out.mono (by omega)).new_ hnG, HP5.out, all_succ arcD hvl' HP35.out ?_⟩
                  rw [← HGE.out]
                  exact fun e => absurd e hgi
                clear hLg hgi
                go_wp2
                go_roundw
                case rel => exact ⟨vN + 1, by go_num, by omega, HNH.out⟩
                case measure => simp [intOf]; omega
            · have hve : (rowOf C jN).length ≤ vN := by rw [← HMB.out]; omega
              have hve' : vN ≤ mB := hvm
              have hpair : PInv A C n n' l5 X5 (kN + 1) := HS5.out.inv.pairDone HS5.out.at_ HP5.out (by have := HP35.out; rwa [List.take_of_length_le hve] at this)
              have hlt5 := HS5.out.lt
              have HPAIR := Lib.hid hpair
              have hbl := HS5.out.bl
              have hbx := HS5.out.bx
              rw [← HMB.out, ← HMA.out] at hbl hbx
              have p0 := (HS5.out.thw.cellP 0).1
              have p1 := (HS5.out.thw.cellP 1).1
              have p7 := HS5.out.thw.cell7
              simp at p0 p1
              obtain ⟨Ax, kx, rfl, _⟩ := HS5.out.thw.arcs.len
              clear hS5 hp5 hp35 hpair
              by_cases hmany : 3000 < l5.length ∨ 20000 < X5.length
              · have hfb := HBO.out wr HS5.out.fr
                obtain ⟨_, hr2⟩ := hfb
                have r0 : ∀ k, k < 3 → (wr.cell? ⟨w.heap.size + 1 + 1, k, none⟩ = (#[.int .i64 0, .slice none 0 0, .slice none 0 0] : Array Value)[k]?) ∧ wr.frozen? ⟨w.heap.size + 1 + 1, k, none⟩ = false := fun k _ => by simp [World.cell?, World.frozen?, hr2]
                obtain ⟨r00, r00f⟩ := r0 0 (by omega)
                obtain ⟨r01, r01f⟩ := r0 1 (by omega)
                obtain ⟨r02, r02f⟩ := r0 2 (by omega)
                simp at r00 r01 r02
                have hb4 := blk_set (blk_set (blk_set hr2 0 (.int .i64 0)) 1 (.slice none 0 0)) 2 (.slice none 0 0)
                have hld := loadVar35 (((wr.setCell ⟨w.heap.size + 1 + 1, 0, none⟩ (.int .i64 0)).setCell ⟨w.heap.size + 1 + 1, 1, none⟩ (.slice none 0 0)).setCell ⟨w.heap.size + 1 + 1, 2, none⟩ (.slice none 0 0)) (w.heap.size + 1 + 1) 0 (.int .i64 0) (.slice none 0 0) (.slice none 0 0) (by simp only [World.cell?, hb4]; rfl) (by simp only [World.cell?, hb4]; rfl) (by simp only [World.cell?, hb4]; rfl)
                have hnw := Fr.below HW5.out HS5.out.fr (by rw [HBB.out]; exact HW5.out.size) (by omega) (by omega) (by omega) (by omega)
                have HNW := Lib.hid (((hnw.setCell (p := ⟨w.heap.size + 1 + 1, 0, none⟩) (by simp; omega) (.int .i64 0)).setCell (p := ⟨w.heap.size + 1 + 1, 1, none⟩) (by simp; omega) (.slice none 0 0)).setCell (p := ⟨w.heap.size + 1 + 1, 2, none⟩) (by simp; omega) (.slice none 0 0))
                have HLD := Lib.hid hld
                clear hb4 hld hnw r0 hr2
                have qx : X5.length ≤ 9223372036854775807 := by omega
                have ql : l5.length ≤ 9223372036854775807 := by omega
                by_cases hm1 : 3000 < l5.length
                · have hm1' : (3000 : Int) < (l5.length : Int) := by omega
                  clear hmany
                  go_wp2
                  refine bodyPost_ret (results_ct Try.results11 _ _ _ ⟨w.heap.size + 1 + 1, 0, none⟩ _ rfl HLD.out) rfl ?_
                  exact ⟨HNW.out, .inl rfl⟩
                · have hm2' : (20000 : Int) < (X5.length : Int) := by omega
                  have hm1' : ¬ (3000 : Int) < (l5.length : Int) := by omega
                  clear hmany
                  go_wp2
                  refine bodyPost_ret (results_ct Try.results11 _ _ _ ⟨w.heap.size + 1 + 1, 0, none⟩ _ rfl HLD.out) rfl ?_
                  exact ⟨HNW.out, .inl rfl⟩
              · have hm1' : ¬ (3000 : Int) < (l5.length : Int) := by omega
                have hm2' : ¬ (20000 : Int) < (X5.length : Int) := by omega
                have HNO : Hid (ThO B t A C n n' w5 (kN + 1) wr) := ⟨_, _, _, _, _, HS5.out.thw, HPAIR.out, by omega, by omega, by omega, HS5.out.fr⟩
                clear hmany
                go_wp2
                go_roundw
                case rel => exact ⟨kN + 1, by go_num, HNO.out⟩
                case measure => simp [intOf]; omega
    · have hke : kN = l.length := by omega
      rw [hke] at hP
      obtain ⟨⟨⟨b0, b1, b2⟩, d0, d1, d2⟩, hr2⟩ := HBO.out wr hF
      have hfv : FinsV w F1 nf cf fa := HM.out.finsV
      have hfv' : FinsV w F2 nf' cf' fc := HM'.out.finsV
      have hnf : nf ≤ 1 := by rw [← hfv.1]; exact HG.out.fin
      have hnf' : nf' ≤ 1 := by rw [← hfv'.1]; exact HG'.out.fin
      have HE0 := Lib.hid (show ThE B t w5 l X fa fc 0 wr from ⟨_, _, _, [], hT, hF, by simp, by simp, by simp⟩)
      have HPI := Lib.hid hP
      have HFV := Lib.hid hfv
      have HFV' := Lib.hid hfv'
      have HKE := Lib.hid hke
      obtain ⟨wo, rfl⟩ : ∃ wo : World, wo = wr := ⟨_, rfl⟩
      clear hT hP hF hr2 hke hfv hfv'
      go_wp2
      go_loopw [169] (fun i wr => ∃ uN : Nat, i = .int .i64 uN ∧ uN ≤ nf ∧ ThE B t w5 l X fa fc uN wr) (fun i _ => nf - (intOf i).toNat)
      case atStart => exact ⟨0, rfl, Nat.zero_le _, HE0.out⟩
      case round =>
        obtain ⟨uN, rfl, hum, va2, vf2, vl2, fi2, hT2, hF2, hfl2, hfi2, hall2⟩ := hrel
        obtain ⟨⟨⟨b0', b1', b2'⟩, d0', d1', d2'⟩, hr2⟩ := HBO.out wr hF2
        by_cases hul : uN < nf
        · have hu0 : uN = 0 := by omega
          have HU0 := Lib.hid hu0
          obtain ⟨bf, of_, eF, hc⟩ := HFV.out.2.2 (show 0 < nf by omega)
          subst eF
          have hnw := Fr.below HW5.out hF2 (by rw [HBB.out]; exact HW5.out.size) (by omega) (by omega) (by omega) (by omega)
          obtain ⟨f0, f1⟩ := hc uN hul
          have hfb := HG.out.fins (fa.getD uN 0) (getD_mem (by rw [HFV.out.1]; exact hul) _)
          have f0' := hnw.cell_ f0
          have f1' := hnw.cell_ f1
          obtain ⟨f, hfe⟩ : ∃ f, f = fa.getD uN 0 := ⟨_, rfl⟩
          rw [← hfe] at f0' hfb
          have HFE := Lib.hid hfe
          have hfi0 : fi2 = [] := List.eq_nil_of_length_eq_zero (by omega)
          subst hfi0
          have HE1 := Lib.hid (show ThE2 B t w5 l X fc f wr.heap.size 0 (wr.alloc (.cells #[.int .i64 f, .int .i64 0] 75)) from ⟨_, _, _, [], hT2.new_ (new_alloc wr _), hF2.trans (Fr.of_new (new_alloc wr _) hT2.size), by simp, by simp, by simp, Loc.fresh hT2 _ _⟩)
          have d2a := New.cell_ (new_alloc wr (.cells #[.int .i64 f, .int .i64 0] 75)) d2'
          have hwl : w.heap.size + 2 < wr.heap.size := by have := hT2.size; have := HBB.out; have := hB4; have := hT2.old.1; omega
          obtain ⟨wf, rfl⟩ : ∃ wf : World, wf = wr := ⟨_, rfl⟩
          clear hT2 hF2 hc f0 f1 hfe hnw hr2 hall2 hfi2 hfl2 hu0
          go_wp2
          go_loopw [176] (fun i wr => ∃ vN : Nat, i = .int .i64 vN ∧ vN ≤ nf' ∧ ThE2 B t w5 l X fc f wf.heap.size vN wr) (fun i _ => nf' - (intOf i).toNat)
          case atStart => exact ⟨0, rfl, Nat.zero_le _, HE1.out⟩
          case round =>
            obtain ⟨vN, rfl, hvm, va3, vf3, vl3, fi3, hT3, hF3, hfl3, hfi3, hall3, hL3⟩ := hrel
            have HT3 := Lib.hid hT3
            have HF3 := Lib.hid hF3
            have HFI3 := Lib.hid hfi3
            have HALL3 := Lib.hid hall3
            have HL3 := Lib.hid hL3
            by_cases hvl : vN < nf'
            · have hv0 : vN = 0 := by omega
              have HV0 := Lib.hid hv0
              obtain ⟨bg, og, eG, hc⟩ := HFV'.out.2.2 (show 0 < nf' by omega)
              subst eG
              have hnw := Fr.below HW5.out hF3 (by rw [HBB.out]; exact HW5.out.size) (by omega) (by omega) (by omega) (by omega)
              obtain ⟨g0, g1⟩ := hc vN hvl
              have hgb := HG'.out.fins (fc.getD vN 0) (getD_mem (by rw [HFV'.out.1]; exact hvl) _)
              have g0' := hnw.cell_ g0
              have g1' := hnw.cell_ g1
              obtain ⟨g, hge⟩ : ∃ g, g = fc.getD vN 0 := ⟨_, rfl⟩
              rw [← hge] at g0' hgb
              have HGE := Lib.hid hge
              have hnG := new_alloc wr (.cells #[.int .i64 g, .int .i64 0] 75)
              have hTg := hT3.new_ hnG
              have hLf := hL3.new_ hnG
              have hLg := Loc.fresh hT3 #[.int .i64 g, .int .i64 0] 75
              have hFg := hF3.trans (Fr.of_new hnG hT3.size)
              have x8 := hT3.cell8
              have x8l := lt_heap hT3.c8
              have xf0 := hL3.cell 0
              have xf1 := hL3.cell 1
              simp at xf0 xf1
              have hlf := lt_heap hL3.blk
              have HK : Hid (prK.ok (f, g)) := ⟨wfI_of hfb.1 (by omega), wfI_of hgb.1 (by omega)⟩
              have HTG := Lib.hid hTg
              have HLF := Lib.hid hLf
              have HLG := Lib.hid hLg
              have HFG := Lib.hid hFg
              have hfc1 : ∀ y ∈ fc.take (vN + 1), y = g := by
                intro y hy
                have : fc = [g] := by
                  have e1 : fc.length = 1 := by rw [HFV'.out.1]; show nf' = 1; omega
                  obtain ⟨z, hz⟩ := List.length_eq_one_iff.1 e1
                  rw [hge, hz, hv0]; rfl
                rw [this, hv0] at hy
                simpa using hy
              have HFC1 := Lib.hid hfc1
              have x7 := hTg.cell7
              clear hT3 hF3 hfi3 hall3 hL3 hc g0 g1 hge hnw hTg hLf hLg hFg hfc1 hv0
              cases hpos : posF (f, g) l with
              | none =>
                have HR : Hid (posI l (f, g) = none) := by unfold Hid posI; rw [hpos]; rfl
                have HNE : Hid (ThE2 B t w5 l X fc f wf.heap.size (vN + 1) (wr.alloc (.cells #[.int .i64 g, .int .i64 0] 75))) :=
                  ⟨_, _, _, _, HTG.out, HFG.out, by omega, HFI3.out, (fun y hy m hm => by rw [HFC1.out y hy, hpos] at hm; cases hm), HLF.out⟩
                clear hpos
                go_wp2_with (at_lookup; refine wpList_lookup_mapI_ok rfl _ _ 81 rfl law80 Try.underlying81 Try.underlying3 (zero3 _) rfl HTG.out.map (f, g) rfl HK.out none HR ?_)
                go_roundw
                case rel => exact ⟨vN + 1, by go_num, by omega, HNE.out⟩
                case measure => simp [intOf]; omega
              | some m =>
                have HR : Hid (posI l (f, g) = some (m : Int)) := by unfold Hid posI; rw [hpos]; rfl
                have hml := posF_lt hpos
                have HPOS := Lib.hid hpos
                have hw0 : IntKind.i64.wrap 0 = 0 := by decide
                clear hpos
                go_wp2_with (at_lookup; refine wpList_lookup_mapI_ok rfl _ _ 81 rfl law80 Try.underlying81 Try.underlying3 (zero3 _) rfl HTG.out.map (f, g) rfl HK.out (some (m : Int)) HR ?_)
                refine (mFinal_any (m : Int) HTG.out (by omega)).mono ?_
                rintro en wb ⟨rfl, ⟨va4, vf4, vl4, hT4, hL4⟩, hF4⟩
                have hdb : New wb wb.drew := (New.refl wb).drew_
                have hT5 := hT4.new_ hdb
                have hLf5 := (hL4 _ _ _ HLF.out).new_ hdb
                have hLg5 := (hL4 _ _ _ HLG.out).new_ hdb
                obtain ⟨hT6, hF6⟩ := hT5.costly
                have hLf6 := hLf5.set_ (q := ⟨t.p, 3, none⟩) (Ne.symm hLf5.np) (.bool false)
                have hLg6 := hLg5.set_ (q := ⟨t.p, 3, none⟩) (Ne.symm hLg5.np) (.bool false)
                have s7 := hT5.cell7
                obtain ⟨s3, s3f⟩ := hT5.cellP 3
                have sf := hLf5.cell 1
                have sg := hLg5.cell 1
                have hS5 := And.intro s7 (And.intro s3 (And.intro sf sg))
                have u7 := hT6.cell7
                have u3 := (hT6.cellP 3).1
                have uf := hLf6.cell 1
                have ug := hLg6.cell 1
                have hS6 := And.intro u7 (And.intro u3 (And.intro uf ug))
                simp at hS5 hS6
                have HNE : Hid (ThE2 B t w5 l X fc f wf.heap.size (vN + 1) (wb.drew.setCell ⟨t.p, 3, none⟩ (.bool false))) := by
                  have hfin : fi3 = [] := List.eq_nil_of_length_eq_zero (by have := HV0.out; omega)
                  subst hfin
                  exact ⟨_, _, _, _, hT6, ((HFG.out.trans hF4).trans (Fr.of_new hdb hT4.size)).trans hF6, by simp, fun y hy => by simp at hy; subst hy; omega, fun y hy m' hm' => by
                    rw [HFC1.out y hy, HPOS.out] at hm'
                    injection hm' with hm'
                    subst hm'
                    simp, hLf6⟩
                clear hT4 hL4 hF4 hT5 hLf5 hLg5 hT6 hF6 hLf6 hLg6 s7 s3 sf sg u7 u3 uf ug
                go_wp2
                go_region_held3 (fun wx => wx.cell? ⟨t.b7, 0, none⟩ = some (.pointer (some ⟨t.p, 0, none⟩)) ∧ wx.cell? ⟨t.p, 3, none⟩ = some (.bool false) ∧ wx.cell? ⟨wf.heap.size, 1, none⟩ = some (.int .i64 0) ∧ wx.cell? ⟨wr.heap.size, 1, none⟩ = some (.int .i64 0)) (first | assumption) (fail)
                go_wp2
                go_roundw
                case rel => exact ⟨vN + 1, by go_num, by omega, HNE.out⟩
                case measure => simp [intOf]; omega
            · have hfct : fc.take vN = fc := List.take_of_length_le (by rw [HFV'.out.1]; show nf' ≤ vN; omega)
              have hfat : fa.take (uN + 1) = [f] := by
                have e1 : fa.length = 1 := by rw [HFV.out.1]; show nf = 1; have := HU0.out; omega
                obtain ⟨z, hz⟩ := List.length_eq_one_iff.1 e1
                rw [HFE.out, hz, HU0.out]; rfl
              have HNE : Hid (ThE B t w5 l X fa fc (uN + 1) wr) := by
                refine ⟨_, _, _, _, HT3.out, HF3.out, by have := HU0.out; omega, HFI3.out, fun x hx y hy m hm => ?_⟩
                rw [hfat] at hx
                simp at hx
                subst hx
                exact HALL3.out y (by rw [hfct]; exact hy) m hm
              clear hT3 hF3 hfi3 hall3 hL3 hfct hfat
              go_wp2
              go_roundw
              case rel => exact ⟨uN + 1, by go_num, by omega, HNE.out⟩
              case measure => simp [intOf]; omega
        · have hfat : fa.take uN = fa := List.take_of_length_le (by rw [HFV.out.1]; show nf ≤ uN; omega)
          have hfo : FinOf l fa fc fi2 := ⟨by omega, hfi2, fun x hx y hy m hm => hall2 x (by rw [hfat]; exact hx) y hy m hm⟩
          have HFO := Lib.hid hfo
          have HT2 := Lib.hid hT2
          have hnw := Fr.below HW5.out hF2 (by rw [HBB.out]; exact HW5.out.size) (by omega) (by omega) (by omega) (by omega)
          have x7 := hT2.cell7
          obtain ⟨Ax, kx, rfl, _⟩ := hT2.arcs.len
          obtain ⟨Ay, ky, rfl, _⟩ := hT2.fins.len
          have HDN := Lib.hid (done_ok hT2 hl hx)
          have HNW := Lib.hid hnw
          have HR2 := Lib.hid hr2
          have hwB2 : w.heap.size + 3 ≤ B := by rw [HBB.out]; have := hT2.old.1; omega
          clear hfat hfo hall2 hfi2 hfl2 hT2 hF2 hnw hr2 b0' b1' b2' d0' d1' d2'
          go_wp2_with fail
          refine HDN.out.mono ?_
          rintro en wb ⟨rfl, hnb⟩
          have hr3 := (hnb.block _ (lt_heap HR2.out)).trans HR2.out
          have r0 : ∀ k, k < 3 → (wb.cell? ⟨w.heap.size + 1 + 1, k, none⟩ = (#[.int .i64 0, .slice none 0 0, .slice none 0 0] : Array Value)[k]?) ∧ wb.frozen? ⟨w.heap.size + 1 + 1, k, none⟩ = false := fun k _ => by simp [World.cell?, World.frozen?, hr3]
          obtain ⟨r00, r00f⟩ := r0 0 (by omega)
          obtain ⟨r01, r01f⟩ := r0 1 (by omega)
          obtain ⟨r02, r02f⟩ := r0 2 (by omega)
          simp at r00 r01 r02
          have hb4 := blk_set (blk_set (blk_set hr3 0 (.int .i64 l.length)) 1 (.slice Ax X.length kx)) 2 (.slice Ay fi2.length ky)
          have hld := loadVar35 (((wb.setCell ⟨w.heap.size + 1 + 1, 0, none⟩ (.int .i64 l.length)).setCell ⟨w.heap.size + 1 + 1, 1, none⟩ (.slice Ax X.length kx)).setCell ⟨w.heap.size + 1 + 1, 2, none⟩ (.slice Ay fi2.length ky)) (w.heap.size + 1 + 1) 0 (.int .i64 l.length) (.slice Ax X.length kx) (.slice Ay fi2.length ky) (by simp only [World.cell?, hb4]; rfl) (by simp only [World.cell?, hb4]; rfl) (by simp only [World.cell?, hb4]; rfl)
          have HLD := Lib.hid hld
          have HNB := Lib.hid hnb
          clear hr3 hb4 hld r0 hnb
          go_wp2
          refine bodyPost_ret (results_ct Try.results11 _ _ _ ⟨w.heap.size + 1 + 1, 0, none⟩ _ rfl HLD.out) rfl ?_
          have hnf1 := New.trans HNW.out HNB.out
          have hown : ∀ {e : TypeId} {size n : Nat} {v : Value} {xs : List Value}, Row wr B e size v n xs → v.ownBlock = none ∨ v.ownBlock ≠ some (w.heap.size + 1 + 1) := fun hrw => .inr (fun e => by have := (hrw.lt _ e).1; omega)
          have hra := (HT2.out.arcs.new_ HNB.out)
          have hrf := (HT2.out.fins.new_ HNB.out)
          have hoa := hown HT2.out.arcs
          have hof := hown HT2.out.fins
          refine ⟨((hnf1.setCell (p := ⟨w.heap.size + 1 + 1, 0, none⟩) (by simp; omega) _).setCell (p := ⟨w.heap.size + 1 + 1, 1, none⟩) (by simp; omega) _).setCell (p := ⟨w.heap.size + 1 + 1, 2, none⟩) (by simp; omega) _, .inr ⟨l.length, _, _, X, fi2, rfl, ?_, ?_, ?_, ?_⟩⟩
          · exact (((hra.setCell (p := ⟨w.heap.size + 1 + 1, 0, none⟩) hoa _).setCell (p := ⟨w.heap.size + 1 + 1, 1, none⟩) hoa _).setCell (p := ⟨w.heap.size + 1 + 1, 2, none⟩) hoa _).mono (by omega)
          · exact (((hrf.setCell (p := ⟨w.heap.size + 1 + 1, 0, none⟩) hof _).setCell (p := ⟨w.heap.size + 1 + 1, 1, none⟩) hof _).setCell (p := ⟨w.heap.size + 1 + 1, 2, none⟩) hof _).mono (by omega)
          · exact through_good HPI.out hl hx HFO.out
          · exact fun text x y h1 h2 => through_reads HPI.out HFO.out h1 h2
end Go.Proofs.Ytglmlbmjppblbaa
