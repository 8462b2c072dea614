/- Net: the walk. -/
import Derived.Test.YtglmlbmjppblbaaQ
import Derived.Deep.DeepCutAuto
namespace Go.Proofs.Ytglmlbmjppblbaa
open Go.RowKit Go.Kap
set_option maxRecDepth 100000

theorem loadVar35 (w : World) (b o : Nat) (v0 v1 v2 : Value) (h0 : w.cell? ⟨b, o, none⟩ = some v0) (h1 : w.cell? ⟨b, o + 1, none⟩ = some v1) (h2 : w.cell? ⟨b, o + 2, none⟩ = some v2) :
    (loadVar 35 ⟨b, o, none⟩).run Try.prog w = .ok (.agg #[v0, v1, v2]) w := by
  have h3 : (isAgg 35).run Try.prog w = .ok true w := by kernel_rfl
  have h4 : (sizeOf 35).run Try.prog w = .ok 3 w := by kernel_rfl
  simp [loadVar, h3, h4, Result.andThen, loadCells, go_sem, h0, h1, h2]

theorem results_ct {fn : Func} {a t u : Nat} (h : fn.results = #[.cell a t, .tmp u]) (tmps : Array Value) (P : Program) (w : World) (b : Addr) (v : Value) (hb : (asAddr (tmps.getD a undef)).run P w = .ok b w) (hl : (loadVar t b).run P w = .ok v w) :
    (results fn tmps).run P w = .ok (.tuple #[v, tmps.getD u undef]) w := by
  rw [Array.getD_eq_getD_getElem?] at hb
  unfold results
  rw [h]
  simp [Result.andThen, hb, hl]

def NetRes (c : ChgM) (w : World) (en : Ending) (w' : World) : Prop :=
  ∃ (L : LS) (va vf : Value), en = .returned (.tuple #[.agg #[.int .i64 L.labs.length, va, vf], .int .i64 0]) ∧ Row w' w.heap.size 72 5 va L.arcs.length (arcCells L.arcs) ∧ Row w' w.heap.size 75 2 vf L.finals.length (finCells L.finals) ∧
    LInv c [] L ∧ (∀ u ∈ L.labs, DoneL c L u) ∧ L.arcs.length ≤ 16000 ∧ New w w'

def skipB (L : LS) (k : Nat) : Bool := match L.labs[k]? with
  | some (.S _ _) => false
  | _ => true

theorem eql_none (w : World) (n c : Nat) : (binOp .eql 22 (.slice none n c) (.slice none 0 0)).run Try.prog w = .ok (.bool true) w := Lib.run_eql_slice_nil w 22 3 none n c 0 0 Try.underlying22
theorem eql_some (w : World) (a : Addr) (n c : Nat) : (binOp .eql 22 (.slice (some a) n c) (.slice none 0 0)).run Try.prog w = .ok (.bool false) w := Lib.run_eql_slice_nil w 22 3 (some a) n c 0 0 Try.underlying22
/-- One entry of the table of states. -/
theorem NetW.entry {w : World} {B0 p : Nat} {k : Int} {H : ChgH} {va vf : Value} {A3 : Option Addr} {n3 k3 : Nat} {mb : Nat} {cs : List Value} {s : NS} (h : NetW w B0 p k H va vf (.slice A3 n3 k3) mb cs s) {j : Nat} (hj : j < s.sts.length) :
    ∃ g o A n c A' n' c', n3 = s.sts.length ∧ A3 = some ⟨g, o, none⟩ ∧ w.cell? ⟨g, o + j * 2, none⟩ = some (.slice A n c) ∧ w.cell? ⟨g, o + j * 2 + 1, none⟩ = some (.slice A' n' c') ∧ IntsK w A n c (s.sts.getD j ([], [])).1 ∧ IntsK w A' n' c' (s.sts.getD j ([], [])).2 ∧
      (j ≠ 0 → (s.sts.getD j ([], [])) = ([], []) → A = none ∧ A' = none) := by
  obtain ⟨A, n, c, A', n', c', h1, h2, h3, h4, h5⟩ := h.ent.2 j hj
  obtain ⟨B, d, e, _, _, _⟩ := h.sts.len
  injection e with e1 e2 e3
  subst e1 e2 e3
  obtain ⟨g, o, rfl, _, _, hc⟩ := h.sts.cell (by omega)
  exact ⟨g, o, A, n, c, A', n', c', rfl, rfl, by rw [hc _ (by omega)]; exact h1, by rw [Nat.add_assoc, hc _ (by omega)]; exact h2, h3, h4, h5⟩

/-- A view of ints that the netter leaves alone. -/
def IntsN (w : World) (B0 : Nat) (A : Option Addr) (n c : Nat) (xs : List Int) : Prop := Ints w B0 A n c xs ∨ IntsK w A n c xs
section
variable {w w' : World} {B0 n c : Nat} {A : Option Addr} {xs : List Int}
theorem IntsN.len (h : IntsN w B0 A n c xs) : xs.length = n := h.elim (fun h => h.1) (fun h => h.1.1)
theorem IntsN.nfr (h : IntsN w B0 A n c xs) (hf : NFr B0 w w') : IntsN w' B0 A n c xs := h.elim (fun h => .inl (hf.view h)) (fun h => .inr (hf.ints h))
theorem IntsN.src (h : IntsN w B0 A n c xs) : Src w A n 1 (xs.map (.int .i64)) := h.elim (fun h => h.src) (fun h => h.1.src)
theorem IntsN.at (h : IntsN w B0 A n c xs) (hn : 0 < n) : ∃ b off, A = some ⟨b, off, none⟩ ∧ ∀ j, j < n → w.cell? ⟨b, off + j, none⟩ = some (.int .i64 (xs.getD j 0)) := by
  rcases h with h | h
  · obtain ⟨b, off, e, _, hc⟩ := h.2.2 hn; exact ⟨b, off, e, hc⟩
  · obtain ⟨b, off, e, _, hc⟩ := h.1.2.2 hn; exact ⟨b, off, e, hc⟩
theorem IntsN.cap (h : IntsN w B0 A n c xs) : n ≤ c := h.elim (fun h => h.2.1.2.1) (fun h => h.1.2.1.2.1)
end
def StepPostN (B : Nat) (c : ChgM) (out inn : List Int) (w : World) (en : Ending) (w' : World) : Prop :=
  ∃ A n k, en = .returned (.tuple #[.int .i64 (stepN c out inn), .slice A n k]) ∧ IntsN w B A n k (stepO c out inn) ∧ New w w'
theorem step_anyN (B : Nat) (k : Int) (H : ChgH) (c : ChgM) (O I : Option Addr) (m d p e : Nat) (out inn : List Int) (w : World) (hBB : B ≤ w.heap.size) (h : Chg w B H c) (ho : Ints w w.heap.size O m d out) (hi : IntsK w I p e inn) (hp : 0 < p) :
    Calls Try.prog 21 #[.agg #[.int .i64 k, .slice H.a1 H.n1 H.c1, .slice H.a2 H.n2 H.c2, .slice H.a3 H.n3 H.c3, .slice H.a4 H.n4 H.c4], .slice O m d, .slice I p e] w (StepPostN B c out inn w) := by
  have h' := (h.more hBB).new_ (new_alloc w (.cells #[.int .i64 k, .slice H.a1 H.n1 H.c1, .slice H.a2 H.n2 H.c2, .slice H.a3 H.n3 H.c3, .slice H.a4 H.n4 H.c4] 25))
  have ho' := ho.new_ (new_alloc w (.cells #[.int .i64 k, .slice H.a1 H.n1 H.c1, .slice H.a2 H.n2 H.c2, .slice H.a3 H.n3 H.c3, .slice H.a4 H.n4 H.c4] 25))
  have hi' := hi.1.new_ (new_alloc w (.cells #[.int .i64 k, .slice H.a1 H.n1 H.c1, .slice H.a2 H.n2 H.c2, .slice H.a3 H.n3 H.c3, .slice H.a4 H.n4 H.c4] 25))
  have hr1 := hi.take (k := 1) (by omega)
  have hfl := h.frm.1
  have hcap := hi.1.2.1
  have HFL := Lib.hid hfl
  clear hfl
  cases ht : turnsM c out inn
  · have HT := Lib.hid ht
    clear ht
    go_enter Try.func21, Try.ntmps21
    go_wp2_with fail
    refine (turns_any k H c O I m d p e out inn _ h' ho' hi').mono ?_
    rw [HT.out]
    rintro en w' ⟨rfl, hnew⟩
    have hnew' := New.trans (new_alloc w _) hnew
    go_wp2
    go_quiet (fail)
    go_wp2
    go_ret2
    refine ⟨I, 1, e, ?_, ?_, hnew'.drewN _⟩
    · show Ending.returned (.tuple #[.int .i64 1, .slice I 1 e]) = _
      simp [stepN, HT.out]
    · unfold stepO; rw [HT.out]; exact .inr hr1
  · have HT := Lib.hid ht
    clear ht
    go_enter Try.func21, Try.ntmps21
    go_wp2_with fail
    refine (turns_any k H c O I m d p e out inn _ h' ho' hi').mono ?_
    rw [HT.out]
    rintro en w' ⟨rfl, hnew⟩
    have hnew' := New.trans (new_alloc w _) hnew
    have hc1 := hnew.cell (p := ⟨w.heap.size, 1, none⟩) (by simp)
    have hc2 := hnew.cell (p := ⟨w.heap.size, 2, none⟩) (by simp)
    simp [go_sem] at hc1 hc2
    go_wp2
    go_quiet (fail)
    go_wp2
    go_ret2
    refine ⟨H.a2, H.n2, H.c2, ?_, ?_, hnew'.drewN _⟩
    · show Ending.returned (.tuple #[.int .i64 (H.n1 : Int), .slice H.a2 H.n2 H.c2]) = _
      unfold stepN; rw [HT.out, if_pos rfl, HFL.out]
    · unfold stepO; rw [HT.out]; exact .inl h.to

/-- The inner loop. -/
def NetJ (B0 p : Nat) (k : Int) (H : ChgH) (c : ChgM) (L : LS) (kk : Nat) (oo ii : List Int) (wc : World) (x : Nat) (wr : World) : Prop :=
  1 ≤ x ∧ (x : Int) ≤ c.kinds + 1 ∧ ∃ va vf vs mb cs s' L', NetW wr B0 p k H va vf vs mb cs s' ∧ NI c s' L' (5 * kk + x) ∧ Ext L L' ∧ RestAt c L' kk oo ii ∧ (∀ y : Nat, 1 ≤ y → y < x → ArcAt c L' kk oo ii y) ∧ NFr B0 wc wr

theorem NetJ.step {B0 p : Nat} {k : Int} {H : ChgH} {c : ChgM} {L : LS} {kk : Nat} {oo ii : List Int} {wc wr : World} {x : Nat} {va vf vs : Value} {mb : Nat} {cs : List Value} {s : NS} {L' : LS} (hx : 1 ≤ (x : Int) ∧ (x : Int) ≤ c.kinds) (hW : NetW wr B0 p k H va vf vs mb cs s) (hNI : NI c s L' (5 * kk + x + 1)) (he : Ext L L') (hr : RestAt c L' kk oo ii)
    (ha : ∀ y : Nat, 1 ≤ y → y < x → ArcAt c L' kk oo ii y) (hax : ArcAt c L' kk oo ii x) (hf : NFr B0 wc wr) : NetJ B0 p k H c L kk oo ii wc (x + 1) wr := by
  refine ⟨by omega, by omega, va, vf, vs, mb, cs, s, L', hW, hNI, he, hr, fun y h1 h2 => ?_, hf⟩
  by_cases h : y = x
  · subst h; exact hax
  · exact ha y h1 (by omega)

/-- The outer loop. -/
def NetO (B0 p : Nat) (k : Int) (H : ChgH) (c : ChgM) (w1 : World) (kk : Nat) (wr : World) : Prop :=
  ∃ va vf vs mb cs s L, NetW wr B0 p k H va vf vs mb cs s ∧ NI c s L (5 * kk) ∧ kk ≤ L.labs.length ∧ (∀ j, j < kk → ∀ o i, L.labs[j]? = some (.S o i) → DoneL c L (.S o i)) ∧ Below B0 w1 wr

set_option maxHeartbeats 16000000 in
theorem net_any (k : Int) (H : ChgH) (c : ChgM) (w : World) (h : Chg w w.heap.size H c) (hk : k = c.kinds) (hok : okC c = true) (hl : H.n3 ≤ 1048576) (hr : H.n4 ≤ 1048576) :
    Calls Try.prog 7 #[.agg #[.int .i64 k, .slice H.a1 H.n1 H.c1, .slice H.a2 H.n2 H.c2, .slice H.a3 H.n3 H.c3, .slice H.a4 H.n4 H.c4]] w (NetRes c w) := by
  have HK := Lib.hid hk
  have hn1 : New w ((w.alloc (.cells #[.int .i64 k, .slice H.a1 H.n1 H.c1, .slice H.a2 H.n2 H.c2, .slice H.a3 H.n3 H.c3, .slice H.a4 H.n4 H.c4] 25)).alloc (.cells #[.int .i64 0, .slice none 0 0, .slice none 0 0] 35)) := ((New.refl w).alloc _).alloc _
  have h1 := h.new_ hn1
  have HOK := Lib.hid hok
  have okf := OkF.of hok
  have HN3 := Lib.hid h.left.1
  have HN1 := Lib.hid h.frm.1
  have HN4 := Lib.hid h.right.1
  clear hk hok
  have hmm := @run_makeMap Try.prog
  go_enter Try.func7, Try.ntmps7
  go_wp2_with fail
  refine (check_any k H c _ h1 HK.out hl hr).mono ?_
  rintro en w1 ⟨z, rfl, hz, hw1⟩
  have hz0 : z = 0 := hz.2 HOK.out
  subst hz0
  clear hz
  have hn2 := New.trans hn1 hw1
  have hbx : ∀ i, i < 5 → w1.cell? ⟨w.heap.size, i, none⟩ = (#[.int .i64 k, .slice H.a1 H.n1 H.c1, .slice H.a2 H.n2 H.c2, .slice H.a3 H.n3 H.c3, .slice H.a4 H.n4 H.c4] : Array Value)[i]? := by
    intro i hi
    rw [hw1.cell (by simp; omega)]
    simp [go_sem]
  have hx0 := hbx 0 (by omega)
  have hx1 := hbx 1 (by omega)
  have hx2 := hbx 2 (by omega)
  have hx3 := hbx 3 (by omega)
  have hx4 := hbx 4 (by omega)
  simp at hx0 hx1 hx2 hx3 hx4
  clear hbx
  have hby : ∀ i, i < 3 → w1.cell? ⟨w.heap.size + 1, i, none⟩ = (#[.int .i64 0, .slice none 0 0, .slice none 0 0] : Array Value)[i]? ∧ w1.frozen? ⟨w.heap.size + 1, i, none⟩ = false := by
    intro i hi
    rw [hw1.cell (by simp), hw1.frozen (by simp)]
    simp [go_sem]
  have hsz1 : w.heap.size + 2 ≤ w1.heap.size := by have := hw1.size; simp at this; omega
  go_wp2_with fail
  have hmap := MapI.made strK w1 3
  have hW : NetW ((w1.alloc (.map #[] 0)).alloc (.cells #[.int .i64 k, .slice H.a1 H.n1 H.c1, .slice H.a2 H.n2 H.c2, .slice H.a3 H.n3 H.c3, .slice H.a4 H.n4 H.c4, .int .i64 0, .slice none 0 0, .slice none 0 0, .map (some w1.heap.size), .slice none 0 0] 54)) (w.heap.size + 2) (w1.heap.size + 1) k H (.slice none 0 0) (.slice none 0 0) (.slice none 0 0) w1.heap.size [] ⟨[], [], [], []⟩ := by
    refine ⟨⟨by omega, by omega⟩, by (show ((w1.heap.push _).push _)[w1.heap.size + 1]? = _; rw [Array.getElem?_push]; simp), Row.nil_ _ _ _ _, Row.nil_ _ _ _ _, Row.nil_ _ _ _ _, ⟨rfl, fun j hj => by simp at hj⟩, ?_⟩
    exact hmap.alloc _
  have hnil := IntsK.nil_ ((w1.alloc (.map #[] 0)).alloc (.cells #[.int .i64 k, .slice H.a1 H.n1 H.c1, .slice H.a2 H.n2 H.c2, .slice H.a3 H.n3 H.c3, .slice H.a4 H.n4 H.c4, .int .i64 0, .slice none 0 0, .slice none 0 0, .map (some w1.heap.size), .slice none 0 0] 54)) none
  have hb1 : Below (w.heap.size + 2) w1 ((w1.alloc (.map #[] 0)).alloc (.cells #[.int .i64 k, .slice H.a1 H.n1 H.c1, .slice H.a2 H.n2 H.c2, .slice H.a3 H.n3 H.c3, .slice H.a4 H.n4 H.c4, .int .i64 0, .slice none 0 0, .slice none 0 0, .map (some w1.heap.size), .slice none 0 0] 54)) := (((New.refl w1).alloc _).alloc _).mono hsz1
  refine (state_any none none 0 0 0 0 [] [] hW hnil hnil (by have := HN3.out; have := okf.l2; omega) (by omega) (by omega) (by simp) (by simp) (fun h => absurd rfl h)).mono ?_
  rintro en w2 ⟨rfl, ⟨va2, vf2, vs2, mb2, cs2, hW2⟩, hf2⟩
  have hni := ni_begin (c := c)
  rw [HN3.out] at hni
  obtain ⟨hni, hs0⟩ := hni
  rw [hs0]
  have hb2 := hb1.trans hf2.below
  have HR : Hid (NetO (w.heap.size + 2) (w1.heap.size + 1) k H c w1 0 w2) := ⟨_, _, _, _, _, _, _, hW2, hni, by simp, fun j hj => absurd hj (by omega), hb2⟩
  have hc1 := hb2.cell (p := ⟨w.heap.size, 1, none⟩) (by simp)
  have hc4 := hb2.cell (p := ⟨w.heap.size, 4, none⟩) (by simp)
  rw [hx1] at hc1
  rw [hx4] at hc4
  clear hW hnil hW2 hni hs0 hf2 hmap hb1
  have hn1i : (H.n1 : Int) + H.n4 ≤ 3 := by have := HN1.out; have := HN4.out; have := okf.f2; have := okf.r1; omega
  go_wp2
  go_loopw [7] (fun i wr => ∃ kk : Nat, i = .int .i64 kk ∧ NetO (w.heap.size + 2) (w1.heap.size + 1) k H c w1 kk wr) (fun i _ => 3000 - (intOf i).toNat)
  case atStart => exact ⟨0, rfl, HR.out⟩
  case round =>
    obtain ⟨kk, rfl, va, vf, vs, mb, cs, s, L, hNW, hNI, hkk, hdone, hbel⟩ := hrel
    have c5 := hNW.cell 5
    have c9 := hNW.cell 9
    simp at c5 c9
    rw [hNI.names] at c5
    obtain ⟨A3, k3, rfl, hn3, hk3, _⟩ := hNW.sts.len
    by_cases hlt : kk < L.labs.length
    · have hlti : (kk : Int) < (L.labs.length : Int) := by omega
      have HNW := Lib.hid hNW
      have HNI := Lib.hid hNI
      have HDN := Lib.hid hdone
      have hl46 := hNI.labs
      clear hNW hNI hdone
      go_upto_region 10 with fail
      go_cut [75] (fun v wx => v = .bool (skipB L kk) ∧ wx = wr)
      case first =>
        have hrel := HNI.out.rel
        have hq1 := eql_none
        have hq2 := eql_some
        have hz := HNI.out.inv.zero
        have hnd := HNI.out.inv.ok.nodup
        by_cases hks : kk < s.sts.length
        · obtain ⟨g, o, A, n, c', A', n', c2', _, rfl, e1, e2, e3, e4, e5⟩ := HNW.out.entry hks
          have hst := hrel.st kk hks
          by_cases hk0 : kk = 0
          · have hsk : skipB L kk = false := by subst hk0; unfold skipB; rw [hz]
            have HSK := Lib.hid hsk
            have hk0i : ¬ (0 : Int) < (kk : Int) := by omega
            have hksi : ¬ (s.sts.length : Int) ≤ (kk : Int) := by omega
            clear hst hrel hz hnd e3 e4 e5 hsk hk0
            go_wp2
            go_meet
            exact ⟨by rw [HSK.out], rfl⟩
          · have hk0i : (0 : Int) < (kk : Int) := by omega
            cases hsk : skipB L kk with
            | true =>
              have hen : s.sts.getD kk ([], []) = ([], []) := by
                rw [hst]
                unfold skipB at hsk
                split at hsk
                · cases hsk
                · rename_i hns
                  cases hx : L.labs[kk]? with
                  | none => rfl
                  | some y =>
                    cases y with
                    | S a b => exact absurd hx (hns a b)
                    | T _ => rfl
                    | W _ _ _ => rfl
              obtain ⟨rfl, rfl⟩ := e5 hk0 hen
              have HSK := Lib.hid hsk
              have hksi : ¬ (s.sts.length : Int) ≤ (kk : Int) := by omega
              clear hst hrel hz hnd e3 e4 e5 hen hsk
              go_wp2
              go_meet
              exact ⟨by rw [HSK.out], rfl⟩
            | false =>
              have hen : ∃ o i, s.sts.getD kk ([], []) = (o, i) ∧ (o ≠ [] ∨ i ≠ []) := by
                unfold skipB at hsk
                split at hsk
                · rename_i o i hx
                  refine ⟨o, i, by rw [hst, hx]; rfl, ?_⟩
                  by_cases ho : o = []
                  · by_cases hi : i = []
                    · subst ho hi
                      have e1 := posF_inj hnd hx
                      have e2 := posF_inj hnd hz
                      rw [e1] at e2
                      injection e2 with e2
                      exact absurd e2 hk0
                    · exact .inr hi
                  · exact .inl ho
                · cases hsk
              obtain ⟨oo, ii, hen, hoi⟩ := hen
              rw [hen] at e3 e4
              have HSK := Lib.hid hsk
              clear hst hrel hz hnd hen hsk e5
              cases hA : A with
              | some a =>
                subst hA
                clear e3 e4 hoi
                have hksi : ¬ (s.sts.length : Int) ≤ (kk : Int) := by omega
                go_wp2
                go_meet
                exact ⟨by rw [HSK.out], rfl⟩
              | none =>
                subst hA
                cases hA' : A' with
                | some a =>
                  subst hA'
                  clear e3 e4 hoi
                  have hksi : ¬ (s.sts.length : Int) ≤ (kk : Int) := by omega
                  go_wp2
                  go_meet
                  exact ⟨by rw [HSK.out], rfl⟩
                | none =>
                  subst hA'
                  exfalso
                  rcases hoi with h0 | h0
                  · obtain ⟨b, off, e, _⟩ := e3.1.2.2 (by rw [← e3.1.1]; exact List.length_pos_iff.2 h0)
                    cases e
                  · obtain ⟨b, off, e, _⟩ := e4.1.2.2 (by rw [← e4.1.1]; exact List.length_pos_iff.2 h0)
                    cases e
        · have hksi : (s.sts.length : Int) ≤ (kk : Int) := by omega
          have hsk : skipB L kk = true := by
            unfold skipB
            split
            · rename_i o i hx
              exact absurd (hrel.all kk o i hx) hks
            · rfl
          have HSK := Lib.hid hsk
          clear hrel hz hnd hsk
          go_wp2
          go_meet
          exact ⟨by rw [HSK.out], rfl⟩
      case rest =>
        obtain ⟨hv, hwe⟩ := hcut
        subst hwe
        cases hsk : skipB L kk with
        | true =>
          have HSK := Lib.hid hsk
          rw [hsk] at hv
          subst hv
          clear hsk
          go_wp2
          go_roundw
          case rel =>
            refine ⟨kk + 1, by go_num, _, _, _, _, _, _, _, HNW.out, HNI.out.mono (by omega), by omega, fun j hj o i hx => ?_, hbel⟩
            by_cases hjk : j = kk
            · subst hjk
              have := HSK.out
              unfold skipB at this
              rw [hx] at this
              cases this
            · exact HDN.out j (by omega) o i hx
          case measure => simp [intOf]; omega
        | false =>
          have HSK := Lib.hid hsk
          rw [hsk] at hv
          subst hv
          clear hsk
          obtain ⟨oo, ii, hS⟩ : ∃ o i, L.labs[kk]? = some (.S o i) := by
            have := HSK.out
            unfold skipB at this
            split at this
            · rename_i o i hx; exact ⟨o, i, hx⟩
            · cases this
          have hks := HNI.out.rel.all kk oo ii hS
          have hst := HNI.out.rel.st kk hks
          rw [hS] at hst
          obtain ⟨g, o, A, n, c', A', n', c2', _, rfl, e1, e2, e3, e4, _⟩ := HNW.out.entry hks
          rw [hst] at e3 e4
          simp only [entryL] at e3 e4
          have hpos := posF_inj HNI.out.inv.ok.nodup hS
          have hgood := HNI.out.inv.ok.good _ (List.mem_of_getElem? hS)
          have hrg := good_rest okf hgood
          have HPOS := Lib.hid hpos
          have HGOOD := Lib.hid hgood
          have hnA : n ≤ 2 := by have := hgood.2.2.1; have := e3.1.1; omega
          have hnA' : n' ≤ 2 := by have := hgood.2.2.2; have := e4.1.1; omega
          have E3 := Lib.hid e3
          have E4 := Lib.hid e4
          clear hst hS hpos hgood e3 e4
          go_wp2
          go_quiet (fail)
          go_wp2_with fail
          have hdw : New wc (wc.drewN nq) := (New.refl _).drewN _
          have hsz0 := HNW.out.size
          have hW0 := HNW.out.new_ hdw hsz0
          have hf0 : NFr (w.heap.size + 2) wc (wc.drewN nq) := NFr.of_new hdw hsz0
          have hbl0 : Below (w.heap.size + 2) w1 (wc.drewN nq) := hbel.trans hf0.below
          have hcc : Chg w1 (w.heap.size + 2) H c := (h.below hn2).more (by omega)
          have HCC := Lib.hid hcc
          refine (rest_any c A A' n c' n' c2' oo ii hW0 (HCC.out.below hbl0) (hf0.ints E3.out).1 (hf0.ints E4.out).1 okf.f1 okf.t2 (by omega) (by omega)).mono ?_
          rintro en w5 ⟨v5, rfl, hr5, hn5⟩
          obtain ⟨A5, c5', rfl, hi5, _⟩ := Row.intsK hr5 (by have := hrg.2; omega)
          have hW5 := hW0.new_ hn5 hW0.size
          have hf5 := hf0.trans (NFr.of_new hn5 hW0.size)
          go_wp2_with fail
          refine (tail_any (restM c oo ii) A5 _ c5' hW5 hi5 (by have := hrg.2; omega) (by rw [HNI.out.names]; have := hrg.2; omega) (by have := HNI.out.arcs; have := hrg.2; omega) (by have := HNI.out.finals; omega)).mono ?_
          obtain ⟨L1, t1, hNI1, ht1, hp1, hx1⟩ := HNI.out.tail hrg.1 hrg.2
          rw [ht1]
          rintro en w6 ⟨rfl, ⟨va6, vf6, vs6, mb6, cs6, hW6⟩, hf6⟩
          have hf06 := hf5.trans hf6
          go_wp2_with fail
          refine (arc_any _ _ _ _ hW6 (by have := hNI1.arcs; omega)).mono ?_
          obtain ⟨L2, hNI2, hm2, hl2, hx2⟩ := hNI1.arc (u := .S oo ii) (v := .T (restM c oo ii)) (f := kk) (t := t1) (x := 0) (y := 0) (hx1.pos HPOS.out) hp1 (.inl ⟨rfl, rfl, rfl⟩)
          rintro en w7 ⟨rfl, ⟨va7, vf7, vs7, mb7, cs7, hW7⟩, hf7⟩
          have HJ : Hid (NetJ (w.heap.size + 2) (w1.heap.size + 1) k H c L kk oo ii wc 1 w7) := ⟨by omega, by have := okf.k1; omega, _, _, _, _, _, _, L2, hW7, hNI2, hx1.trans hx2, ⟨t1, by rw [hl2]; exact hp1, hm2⟩, fun y h1 h2 => absurd h1 (by omega), hf06.trans hf7⟩
          have hkc : k ≤ 4 := by have := HK.out; have := okf.k4; omega
          clear hW0 hf0 hbl0 hcc hr5 hn5 hi5 hW5 hf5 hNI1 ht1 hp1 hx1 hW6 hf6 hf06 hNI2 hm2 hl2 hx2 hW7 hf7 hdw hrg e1 e2
          go_wp2
          go_loopw [10] (fun i wr => ∃ x : Nat, i = .int .i64 x ∧ NetJ (w.heap.size + 2) (w1.heap.size + 1) k H c L kk oo ii wc x wr) (fun i _ => 10 - (intOf i).toNat)
          case atStart => exact ⟨1, rfl, HJ.out⟩
          case round =>
            have hx1' := hx1
            obtain ⟨x, rfl, hx1, hxk, va', vf', vs', mb', cs', s', L', hNW', hNI', hext, hrst, harc, hfr⟩ := hrel
            have hbl := hbel.trans hfr.below
            have hz0 := hbl.cell (p := ⟨w.heap.size, 0, none⟩) (by simp)
            rw [hx0] at hz0
            have HNW' := Lib.hid hNW'
            have HNI' := Lib.hid hNI'
            have HRST := Lib.hid hrst
            have HARC := Lib.hid harc
            clear hNW' hNI' hrst harc
            by_cases hxk' : (x : Int) ≤ k
            · obtain ⟨i0, hi0, hz0', hz1, hz2⟩ := info_parts info3
              have hxs : 1 ≤ (x : Int) ∧ (x : Int) ≤ c.kinds := ⟨by omega, by have := HK.out; omega⟩
              go_wp2_with fail
              refine (clone_any A' n' c2' ii _ (hfr.ints E4.out).1 (by omega)).mono ?_
              rintro en w8 ⟨v8, rfl, hr8, hn8⟩
              have hsz8 := hn8.size
              go_wp2_with (at_builtin; refine wpList_append_row _ rfl _ _ 22 rfl wr.heap.size 3 i0 (.int .i64 0) 1 8 Try.underlying22 hi0 hz0' hz1 hz2 rfl (by decide) _ _ _ rfl (hr8.alloc _) (some ⟨w8.heap.size, 0, none⟩) 1 1 [.int .i64 x] rfl (Src.lit w8 #[.int .i64 x] 3 1 (by simp) (by simp [Value.oneCell'])) ?c1 ?c2 ?c3 ?_)
              case c1 => unfold maxLen; omega
              case c2 => omega
              case c3 => simp; omega
              intro v9 w9 hr9 hg9 hat9 hnil9
              have hn9 : New wr w9 := (hn8.alloc _).row (hr8.alloc _) (Nat.le_refl _) hg9
              obtain ⟨A9, e9, rfl, hi9, _⟩ := Row.intsK (xs := ii ++ [(x : Int)]) (by simpa using hr9) (by omega)
              have hW9 := HNW'.out.new_ hn9 HNW'.out.size
              have hf9 := hfr.trans (NFr.of_new hn9 HNW'.out.size)
              have hmlen : (ii ++ [(x : Int)]).length = n' + 1 := hi9.1.1
              have HML := Lib.hid hmlen
              clear hr8 hn8 hsz8 hr9 hg9 hat9 hnil9 hmlen
              by_cases hw : n' + 1 < H.n1 + H.n4
              · have hwi : (n' : Int) + 1 < (H.n1 : Int) + H.n4 := by omega
                have hwn : (ii ++ [(x : Int)]).length < need c := by rw [HML.out]; unfold need; rw [HN1.out, HN4.out]; exact hw
                obtain ⟨L3, t3, hNI3, ht3, hp3, hx3'⟩ := HNI'.out.state (good_wait okf HGOOD.out hxs hwn)
                rw [HN3.out] at hNI3 ht3
                go_wp2_with fail
                refine (state_any A A9 n c' (n' + 1) e9 oo (ii ++ [(x : Int)]) hW9 (hf9.ints E3.out) hi9 (by have := HN3.out; have := okf.l2; omega) (by omega) (by omega) (by rw [HNI'.out.names]; have := HNI'.out.labs; omega) HNI'.out.sts (fun _ => HNI'.out.zero)).mono ?_
                rw [ht3]
                rintro en w10 ⟨rfl, ⟨va6, vf6, vs6, mb6, cs6, hW10⟩, hf10⟩
                have hsy : symT c oo ii x = (0, .S (truncL c.left.length oo) (ii ++ [(x : Int)])) := by unfold symT; rw [if_pos hwn]
                obtain ⟨L4, hNI4, hm4, hl4, hx4⟩ := hNI3.arc (u := .S oo ii) (v := .S (truncL c.left.length oo) (ii ++ [(x : Int)])) (f := kk) (t := t3) (x := x) (y := 0) (hx3'.pos (hext.pos HPOS.out)) hp3 (.inr ⟨hxs.1, hxs.2, hsy.symm⟩)
                go_wp2_with fail
                refine (arc_any _ _ _ _ hW10 (by have := hNI3.arcs; omega)).mono ?_
                rintro en w11 ⟨rfl, ⟨va7, vf7, vs7, mb7, cs7, hW11⟩, hf11⟩
                have HST : Hid (NetJ (w.heap.size + 2) (w1.heap.size + 1) k H c L kk oo ii wc (x + 1) w11) := NetJ.step hxs hW11 hNI4 (hext.trans (hx3'.trans hx4)) (HRST.out.ext (hx3'.trans hx4)) (fun y h1 h2 => (HARC.out y h1 h2).ext (hx3'.trans hx4)) ⟨t3, by rw [hsy, hl4]; exact hp3, by rw [hsy]; exact hm4⟩ ((hf9.trans hf10).trans hf11)
                clear hNI3 ht3 hp3 hx3' hW10 hf10 hsy hNI4 hm4 hl4 hx4 hW11 hf11 hwn
                go_wp2
                go_roundw
                case rel => exact ⟨x + 1, by go_num, HST.out⟩
                case measure => simp [intOf]; omega
              · have hwi : ¬ (n' : Int) + 1 < (H.n1 : Int) + H.n4 := by omega
                have hwn : ¬ (ii ++ [(x : Int)]).length < need c := by rw [HML.out]; unfold need; rw [HN1.out, HN4.out]; exact hw
                have hbl9 := hbel.trans hf9.below
                have hq0 := hbl9.cell (p := ⟨w.heap.size, 0, none⟩) (by simp)
                have hq1 := hbl9.cell (p := ⟨w.heap.size, 1, none⟩) (by simp)
                have hq2 := hbl9.cell (p := ⟨w.heap.size, 2, none⟩) (by simp)
                have hq3 := hbl9.cell (p := ⟨w.heap.size, 3, none⟩) (by simp)
                have hq4 := hbl9.cell (p := ⟨w.heap.size, 4, none⟩) (by simp)
                rw [hx0] at hq0
                rw [hx1'] at hq1
                rw [hx2] at hq2
                rw [hx3] at hq3
                rw [hx4] at hq4
                go_wp2_with fail
                refine (step_anyN (w.heap.size + 2) k H c A A9 n c' (n' + 1) e9 oo (ii ++ [(x : Int)]) _ hW9.size (HCC.out.below hbl9) (hf9.ints E3.out).1 hi9 (by omega)).mono ?_
                rintro en w10 ⟨A6, n6, k6, rfl, h6, hn10⟩
                have hW10 := hW9.new_ hn10 hW9.size
                have hf10 := hf9.trans (NFr.of_new hn10 hW9.size)
                have hi10 := hi9.new_ hn10
                have h6' := h6.nfr (NFr.of_new hn10 hW9.size)
                have hne : ii ++ [(x : Int)] ≠ [] := by simp
                have hsle : stepN c oo (ii ++ [(x : Int)]) ≤ n' + 1 := by have := stepN_le c oo _ hne; rw [HML.out] at this; exact this
                have hspos := stepN_pos c oo (ii ++ [(x : Int)]) okf.f1
                have hn62 : n6 ≤ 2 := by rw [← h6.len]; exact stepO_len c oo _ okf.t2
                obtain ⟨b9, o9, rfl, hb9, _⟩ := hi10.1.2.2 (by omega)
                have hcap9 : n' + 1 ≤ e9 := hi10.1.2.1.2.1
                obtain ⟨L4, t4, hNI4, ht4, hp4, hx4'⟩ := HNI'.out.state (good_go okf HGOOD.out hxs)
                rw [HN3.out] at hNI4 ht4
                have HL6 := Lib.hid h6.len
                have hd0 := hi10.drop hsle
                have HE := Lib.hid (Eq.refl (stepN c oo (ii ++ [(x : Int)])))
                generalize hsN : stepN c oo (ii ++ [(x : Int)]) = sN at *
                have HSN := Lib.hid hsN
                have HT4 := Lib.hid ht4
                have HNI4 := Lib.hid hNI4
                have HP4 := Lib.hid hp4
                clear hsN ht4 hNI4 hp4 hne h6 hi9 HE
                obtain ⟨wo, rfl⟩ : ∃ wo : World, wo = wc := ⟨_, rfl⟩
                go_upto_region 20 with fail
                go_cut [14] (fun v wx => ∃ (t4 : Nat) (s4 : NS) (L4 : LS) (va vf vs : Value) (mb : Nat) (cs : List Value), v = .int .i64 t4 ∧ NetW wx (w.heap.size + 2) (w1.heap.size + 1) k H va vf vs mb cs s4 ∧ NI c s4 L4 (5 * kk + x) ∧ posF (.S (truncL H.n3 (oo ++ stepO c oo (ii ++ [(x : Int)]))) ((ii ++ [(x : Int)]).drop sN)) L4.labs = some t4 ∧ Ext L' L4 ∧ NFr (w.heap.size + 2) w10 wx)
                case first =>
                  have hs1 : (sN : Int) ≤ (n' : Int) + 1 := by omega
                  have hs2 : (0 : Int) ≤ (sN : Int) := by omega
                  have HSR2 : n + n6 ≤ maxLen := by unfold maxLen; omega
                  have HSR3 : (n + n6) * 8 ≤ 140737488355328 := by omega
                  have HSR4 : n + n6 ≤ 4611686018427387904 := by omega
                  by_cases hec : e9 = sN
                  · rw [if_pos hec, show e9 - sN = 0 by omega, show n' + 1 - sN = 0 by omega] at hd0
                    obtain rfl : sN = e9 := hec.symm
                    have hd := hd0
                    have hd2 : IntsK w10.drew (some ⟨b9, o9, none⟩) 0 0 ((ii ++ [(x : Int)]).drop sN) := hd.new_ ((New.refl _).drew_)
                    go_region_held3 (fun _ => True) (trivial)
                      (first
                        | (go_at_call 16; (with_reducible refine (clone_any A n c' oo _ ?_ (by omega)).mono ?_); (exact ((hf10.ints E3.out).new_ ((New.refl _).drew_)).1); rintro en wa ⟨vca, rfl, hra, hna⟩; have hna' : New w10 wa := New.trans ((New.refl _).drew_) hna)
                        | (go_at_call 17; (with_reducible refine (state_any Ab (some ⟨b9, o9, none⟩) (n + n6) cb 0 0 (oo ++ stepO c oo (ii ++ [(x : Int)])) ((ii ++ [(x : Int)]).drop sN) (hW10.new_ hnb hW10.size) hib (hd.new_ hnb) (by have := HN3.out; have := okf.l2; omega) (by omega) (by omega) (by rw [HNI'.out.names]; have := HNI'.out.labs; omega) HNI'.out.sts (fun _ => HNI'.out.zero)).mono ?_); rw [HT4.out]; rintro en wd ⟨rfl, ⟨va6, vf6, vs6, mb6, cs6, hWd⟩, hfd⟩)
                        | (have hra' := hra; refine step_append_row _ (by rfl) _ _ 22 (by rfl) w10.heap.size 3 i0 (.int .i64 0) 1 8 Try.underlying22 hi0 hz0' hz1 hz2 rfl (by decide) _ _ _ (by rfl) hra A6 n6 k6 _ (by rfl) (h6'.src.new_ hna') HSR2 HSR3 hna'.size ?_; intro v' wb hrb hgb hatb hnilb; obtain ⟨Ab, cb, rfl, hib, _⟩ := Row.intsK (xs := oo ++ stepO c oo (ii ++ [(x : Int)])) (by rw [List.map_append]; exact hrb) HSR4; have hnb : New w10 wb := hna'.row hra (Nat.le_refl _) hgb; clear hra hra' hrb)
                        | fail)
                    all_goals
                      go_wp2
                      go_meet
                      exact ⟨t4, _, L4, _, _, _, _, _, rfl, hWd, HNI4.out, by rw [← HN3.out]; exact HP4.out, hx4', (NFr.of_new hnb hW10.size).trans hfd⟩
                  · rw [if_neg hec, Option.map_some, Addr.add_lit] at hd0
                    have hd := hd0
                    have hd2 : IntsK w10.drew (some ⟨b9, o9 + sN, none⟩) (n' + 1 - sN) (e9 - sN) ((ii ++ [(x : Int)]).drop sN) := hd.new_ ((New.refl _).drew_)
                    go_region_held3 (fun _ => True) (trivial)
                      (first
                        | (go_at_call 16; (with_reducible refine (clone_any A n c' oo _ ?_ (by omega)).mono ?_); (exact ((hf10.ints E3.out).new_ ((New.refl _).drew_)).1); rintro en wa ⟨vca, rfl, hra, hna⟩; have hna' : New w10 wa := New.trans ((New.refl _).drew_) hna)
                        | (go_at_call 17; (with_reducible refine (state_any Ab (some ⟨b9, o9 + sN, none⟩) (n + n6) cb (n' + 1 - sN) (e9 - sN) (oo ++ stepO c oo (ii ++ [(x : Int)])) ((ii ++ [(x : Int)]).drop sN) (hW10.new_ hnb hW10.size) hib (hd.new_ hnb) (by have := HN3.out; have := okf.l2; omega) (by omega) (by omega) (by rw [HNI'.out.names]; have := HNI'.out.labs; omega) HNI'.out.sts (fun _ => HNI'.out.zero)).mono ?_); rw [HT4.out]; rintro en wd ⟨rfl, ⟨va6, vf6, vs6, mb6, cs6, hWd⟩, hfd⟩)
                        | (have hra' := hra; refine step_append_row _ (by rfl) _ _ 22 (by rfl) w10.heap.size 3 i0 (.int .i64 0) 1 8 Try.underlying22 hi0 hz0' hz1 hz2 rfl (by decide) _ _ _ (by rfl) hra A6 n6 k6 _ (by rfl) (h6'.src.new_ hna') HSR2 HSR3 hna'.size ?_; intro v' wb hrb hgb hatb hnilb; obtain ⟨Ab, cb, rfl, hib, _⟩ := Row.intsK (xs := oo ++ stepO c oo (ii ++ [(x : Int)])) (by rw [List.map_append]; exact hrb) HSR4; have hnb : New w10 wb := hna'.row hra (Nat.le_refl _) hgb; clear hra hra' hrb)
                        | fail)
                    all_goals
                      go_wp2
                      go_meet
                      exact ⟨t4, _, L4, _, _, _, _, _, rfl, hWd, HNI4.out, by rw [← HN3.out]; exact HP4.out, hx4', (NFr.of_new hnb hW10.size).trans hfd⟩
                case rest =>
                  obtain ⟨t5, s5, L5, va5, vf5, vs5, mb5, cs5, hv5, hW5, hN5, hp5, hx5, hf5⟩ := hcut
                  subst hv5
                  have hf9 := hf10.trans hf5
                  have h6w := h6'.nfr hf5
                  rw [← HN3.out] at hp5
                  have hpS := (hext.trans hx5).pos HPOS.out
                  have HP5 := Lib.hid hp5
                  have HPS := Lib.hid hpS
                  have hlen6 : (stepO c oo (ii ++ [(x : Int)])).length = n6 := HL6.out
                  have HL := Lib.hid hlen6
                  clear hp5 hpS hq0 hq1 hq2 hq3 hq4 hd0 hz0 hlen6
                  by_cases h60 : n6 = 0
                  · have hst : stepO c oo (ii ++ [(x : Int)]) = [] := List.eq_nil_of_length_eq_zero (by rw [HL.out]; exact h60)
                    have hsy : symT c oo ii x = (0, .S (truncL c.left.length (oo ++ stepO c oo (ii ++ [(x : Int)]))) ((ii ++ [(x : Int)]).drop sN)) := by unfold symT; rw [if_neg hwn, ← HSN.out, hst]
                    obtain ⟨L6, hNI6, hm6, hl6, hx6⟩ := hN5.arc (u := .S oo ii) (v := .S (truncL c.left.length (oo ++ stepO c oo (ii ++ [(x : Int)]))) ((ii ++ [(x : Int)]).drop sN)) (f := kk) (t := t5) (x := x) (y := 0) HPS.out HP5.out (.inr ⟨hxs.1, hxs.2, hsy.symm⟩)
                    have HSY := Lib.hid hsy
                    have hai : (n6 == 0) = true := by simp [h60]
                    clear hsy hst h60
                    go_wp2_with fail
                    refine (arc_any _ _ _ _ hW5 (by have := hN5.arcs; omega)).mono ?_
                    rintro en w11 ⟨rfl, ⟨va7, vf7, vs7, mb7, cs7, hW11⟩, hf11⟩
                    have HST : Hid (NetJ (w.heap.size + 2) (w1.heap.size + 1) k H c L kk oo ii wo (x + 1) w11) := NetJ.step hxs hW11 hNI6 (hext.trans (hx5.trans hx6)) (HRST.out.ext (hx5.trans hx6)) (fun y h1 h2 => (HARC.out y h1 h2).ext (hx5.trans hx6)) ⟨t5, by rw [HSY.out, hl6]; exact HP5.out, by rw [HSY.out]; exact hm6⟩ (hf9.trans hf11)
                    clear hW11 hf11 hW5 hN5 hNI6 hm6 hl6 hx6 hx5 hf9 h6w
                    go_wp2
                    go_roundw
                    case rel => exact ⟨x + 1, by go_num, HST.out⟩
                    case measure => simp [intOf]; omega
                  · obtain ⟨b6, o6, rfl, hc6⟩ := h6w.at (by omega)
                    have hd0 := hc6 0 (by omega)
                    rw [Nat.add_zero] at hd0
                    have hsyO : Sy (stepO c oo (ii ++ [(x : Int)])) := stepO_sy okf oo (HGOOD.out.2.1.app (Sy.one ⟨hxs.1, by have := okf.k4; omega⟩))
                    by_cases h61 : n6 = 1
                    · obtain ⟨aa, hst⟩ := List.length_eq_one_iff.1 (HL.out.trans h61)
                      have hsy : symT c oo ii x = (aa, .S (truncL c.left.length (oo ++ stepO c oo (ii ++ [(x : Int)]))) ((ii ++ [(x : Int)]).drop sN)) := by unfold symT; rw [if_neg hwn, ← HSN.out, hst]
                      obtain ⟨L6, hNI6, hm6, hl6, hx6⟩ := hN5.arc (u := .S oo ii) (v := .S (truncL c.left.length (oo ++ stepO c oo (ii ++ [(x : Int)]))) ((ii ++ [(x : Int)]).drop sN)) (f := kk) (t := t5) (x := x) (y := aa) HPS.out HP5.out (.inr ⟨hxs.1, hxs.2, hsy.symm⟩)
                      have HSY := Lib.hid hsy
                      rw [hst] at hd0
                      simp at hd0
                      have hai : (n6 == 0) = false := by simp [h61]
                      have hai1 : (n6 == 1) = true := by simp [h61]
                      have h6p : (1 : Int) ≤ (n6 : Int) := by omega
                      have H60 := Lib.hid h60
                      clear hsy hst h60 h61 hc6 hsyO
                      go_wp2_with fail
                      refine (arc_any _ _ _ _ hW5 (by have := hN5.arcs; omega)).mono ?_
                      rintro en w11 ⟨rfl, ⟨va7, vf7, vs7, mb7, cs7, hW11⟩, hf11⟩
                      have HST : Hid (NetJ (w.heap.size + 2) (w1.heap.size + 1) k H c L kk oo ii wo (x + 1) w11) := NetJ.step hxs hW11 hNI6 (hext.trans (hx5.trans hx6)) (HRST.out.ext (hx5.trans hx6)) (fun y h1 h2 => (HARC.out y h1 h2).ext (hx5.trans hx6)) ⟨t5, by rw [HSY.out, hl6]; exact HP5.out, by rw [HSY.out]; exact hm6⟩ (hf9.trans hf11)
                      clear hW11 hf11 hW5 hN5 hNI6 hm6 hl6 hx6 hx5 hf9 h6w
                      go_wp2
                      go_roundw
                      case rel => exact ⟨x + 1, by go_num, HST.out⟩
                      case measure => simp [intOf]; omega
                    · have h62 : n6 = 2 := by omega
                      obtain ⟨aa, bb, hst⟩ : ∃ aa bb, stepO c oo (ii ++ [(x : Int)]) = [aa, bb] := by
                        have e := HL.out.trans h62
                        match hsx : stepO c oo (ii ++ [(x : Int)]), e with
                        | [aa, bb], _ => exact ⟨aa, bb, rfl⟩
                      have hbm : bb ∈ stepO c oo (ii ++ [(x : Int)]) := by rw [hst]; simp
                      have hbsy := hsyO bb hbm
                      have hgW := good_W okf HGOOD.out hxs hbm
                      have hd1 := hc6 1 (by omega)
                      rw [hst] at hd0 hd1
                      simp at hd0 hd1
                      have hsy : symT c oo ii x = (aa, .W (truncL c.left.length (oo ++ stepO c oo (ii ++ [(x : Int)]))) ((ii ++ [(x : Int)]).drop sN) bb) := by unfold symT; rw [if_neg hwn, ← HSN.out, hst]
                      rw [HSN.out] at hgW
                      obtain ⟨L7, t7, hN7, ht7, hp7, hx7⟩ := hN5.writes hgW HP5.out
                      obtain ⟨L6, hNI6, hm6, hl6, hx6⟩ := hN7.arc (u := .S oo ii) (v := .W (truncL c.left.length (oo ++ stepO c oo (ii ++ [(x : Int)]))) ((ii ++ [(x : Int)]).drop sN) bb) (f := kk) (t := t7) (x := x) (y := aa) (hx7.pos HPS.out) hp7 (.inr ⟨hxs.1, hxs.2, hsy.symm⟩)
                      have HSY := Lib.hid hsy
                      have HT7 := Lib.hid ht7
                      have HP7 := Lib.hid hp7
                      have hai : (n6 == 0) = false := by simp [h62]
                      have hai1 : (n6 == 1) = false := by simp [h62]
                      have h6p : (1 : Int) < (n6 : Int) := by omega
                      have h6q : 0 < n6 := by omega
                      have hx57 := hx5.trans (hx7.trans hx6)
                      have hcd : ∀ wx, NFr (w.heap.size + 2) wc wx → wx.cell? ⟨b6, o6 + 1, none⟩ = some (.int .i64 bb) ∧ wx.cell? ⟨b6, o6, none⟩ = some (.int .i64 aa) := by
                        intro wx hwx
                        obtain ⟨b6', o6', e6, hc6'⟩ := (h6w.nfr hwx).at (by omega)
                        injection e6 with e6
                        injection e6 with e61 e62 _
                        subst e61 e62
                        have e0 := hc6' 0 (by omega)
                        have e1 := hc6' 1 (by omega)
                        rw [hst] at e0 e1
                        simp at e0 e1
                        exact ⟨e1, e0⟩
                      have HCD := Lib.hid hcd
                      have hdw : New wc wc.drew := (New.refl wc).drew_
                      have hfd : NFr (w.heap.size + 2) wc wc.drew := NFr.of_new hdw hW5.size
                      have hWd := hW5.new_ hdw hW5.size
                      have hcx0 := hcd wc.drew hfd
                      have hwr := writes_any (t5 : Int) bb hWd ⟨by omega, by have := posF_lt HP5.out; have := hN5.labs; omega⟩ ⟨by omega, by omega⟩ (by rw [hN5.names]; have := hN5.labs; omega) (by have := hN5.arcs; omega)
                      rw [ht7] at hwr
                      have ha7 := hN7.arcs
                      have hx7l : x ≤ 4 := by have := okf.k4; omega
                      have HA7 : (writesM s5 (t5 : Int) bb).1.arcs.length ≤ 1000000 := by omega
                      have H60 := Lib.hid h60
                      clear hsy hst h60 h61 h62 hc6 hsyO hcd hbm hbsy hgW ht7 hN7 hp7 hx7 hx6 ha7
                      go_wp2
                      go_region_held3 (fun w' => w'.cell? ⟨b6, o6 + 1, none⟩ = some (.int .i64 bb) ∧ w'.cell? ⟨b6, o6, none⟩ = some (.int .i64 aa)) (first | assumption)
                        (first
                          | (go_at_call 22; (with_reducible refine hwr.mono ?_); rintro en wx ⟨rfl, ⟨va', vf', vs', mb', cs', hWx⟩, hfx⟩; have hcx := HCD.out wx (hfd.trans hfx))
                          | (go_at_call 18; (with_reducible refine (arc_any _ _ _ _ hWx HA7).mono ?_); rintro en wy ⟨rfl, ⟨va', vf', vs', mb', cs', hWy⟩, hfy⟩; have hcy := HCD.out wy ((hfd.trans hfx).trans hfy))
                          | fail)
                      all_goals
                        have HST : Hid (NetJ (w.heap.size + 2) (w1.heap.size + 1) k H c L kk oo ii wo (x + 1) wy) := NetJ.step hxs hWy hNI6 (hext.trans hx57) (HRST.out.ext hx57) (fun y h1 h2 => (HARC.out y h1 h2).ext hx57) ⟨t7, by rw [HSY.out, hl6]; exact HP7.out, by rw [HSY.out]; exact hm6⟩ (hf9.trans ((hfd.trans hfx).trans hfy))
                        go_wp2
                        go_roundw
                        case rel => exact ⟨x + 1, by go_num, HST.out⟩
                        case measure => simp [intOf]; omega
            · have hK1 : (x : Int) = c.kinds + 1 := by have := HK.out; omega
              go_wp2
              go_roundw
              case rel =>
                refine ⟨kk + 1, by go_num, _, _, _, _, _, _, _, HNW'.out, HNI'.out.mono (by have := okf.k4; omega), by have := hext.len; omega, fun j hj o i hx => ?_, hbl⟩
                by_cases hjk : j = kk
                · subst hjk
                  have hsx := hext.pos HPOS.out
                  have e0 := posF_get hsx
                  rw [hx] at e0
                  injection e0 with e0
                  injection e0 with e0 e0'
                  subst e0 e0'
                  refine done_S hsx HRST.out (fun z h1 h2 => ?_)
                  have := HARC.out z.toNat (by omega) (by omega)
                  rwa [Int.toNat_of_nonneg (by omega)] at this
                · obtain ⟨m, hm⟩ := hext.labs
                  rw [hm, List.getElem?_append_left (by omega)] at hx
                  exact (HDN.out j (by omega) o i hx).ext hext
              case measure => simp [intOf]; omega
    · have hke : kk = L.labs.length := by omega
      have hlti : ¬ (kk : Int) < (L.labs.length : Int) := by omega
      have HNW := Lib.hid hNW
      have HNI := Lib.hid hNI
      have HDN := Lib.hid hdone
      have c6 := hNW.cell 6
      have c7 := hNW.cell 7
      simp at c6 c7
      have hbz : ∀ i, i < 3 → wr.cell? ⟨w.heap.size + 1, i, none⟩ = (#[.int .i64 0, .slice none 0 0, .slice none 0 0] : Array Value)[i]? ∧ wr.frozen? ⟨w.heap.size + 1, i, none⟩ = false := by
        intro i hi
        rw [hbel.cell (by simp), hbel.frozen (by simp)]
        exact hby i hi
      obtain ⟨hy0, hz0⟩ := hbz 0 (by omega)
      obtain ⟨hy1, hz1⟩ := hbz 1 (by omega)
      obtain ⟨hy2, hz2⟩ := hbz 2 (by omega)
      simp at hy0 hy1 hy2
      clear hbz
      obtain ⟨Aa, ka, rfl, _⟩ := hNW.arcs.len
      obtain ⟨Af, kf, rfl, _⟩ := hNW.fins.len
      clear hNW hNI hdone
      have hown : ∀ {e : TypeId} {size n : Nat} {v : Value} {xs : List Value}, Row wr (w.heap.size + 2) e size v n xs → v.ownBlock = none ∨ v.ownBlock ≠ some (w.heap.size + 1) := by
        intro e size n v xs hrw
        exact .inr (fun e => by have := (hrw.lt _ e).1; omega)
      have hra := HNW.out.arcs
      have hrf := HNW.out.fins
      have HRA := Lib.hid hra
      have HRF := Lib.hid hrf
      have HOA := Lib.hid (hown hra)
      have HOF := Lib.hid (hown hrf)
      have hbw : Below w.heap.size w wr := Below.trans hn2 (hbel.mono (by omega))
      clear hra hrf hown
      have hB1 : wr.heap[w.heap.size + 1]? = some (.cells #[.int .i64 0, .slice none 0 0, .slice none 0 0] 35 (0, 0)) := by
        rw [hbel.block _ (by omega), hw1.block _ (by simp)]
        show ((w.heap.push _).push _)[w.heap.size + 1]? = _
        rw [Array.getElem?_push]
        simp
      have hB4 := blk_set (blk_set (blk_set hB1 0 (.int .i64 L.labs.length)) 1 (.slice Aa s.arcs.length ka)) 2 (.slice Af s.finals.length kf)
      have hf0 : ((((wr.setCell ⟨w.heap.size + 1, 0, none⟩ (.int .i64 L.labs.length)).setCell ⟨w.heap.size + 1, 1, none⟩ (.slice Aa s.arcs.length ka)).setCell ⟨w.heap.size + 1, 2, none⟩ (.slice Af s.finals.length kf))).cell? ⟨w.heap.size + 1, 0, none⟩ = some (.int .i64 L.labs.length) := by
        simp only [World.cell?, hB4]; rfl
      have hf1 : ((((wr.setCell ⟨w.heap.size + 1, 0, none⟩ (.int .i64 L.labs.length)).setCell ⟨w.heap.size + 1, 1, none⟩ (.slice Aa s.arcs.length ka)).setCell ⟨w.heap.size + 1, 2, none⟩ (.slice Af s.finals.length kf))).cell? ⟨w.heap.size + 1, 1, none⟩ = some (.slice Aa s.arcs.length ka) := by
        simp only [World.cell?, hB4]; rfl
      have hf2 : ((((wr.setCell ⟨w.heap.size + 1, 0, none⟩ (.int .i64 L.labs.length)).setCell ⟨w.heap.size + 1, 1, none⟩ (.slice Aa s.arcs.length ka)).setCell ⟨w.heap.size + 1, 2, none⟩ (.slice Af s.finals.length kf))).cell? ⟨w.heap.size + 1, 2, none⟩ = some (.slice Af s.finals.length kf) := by
        simp only [World.cell?, hB4]; rfl
      have HF0 := Lib.hid (And.intro hf0 (And.intro hf1 hf2))
      clear hf0 hf1 hf2 hB1 hB4
      go_wp2
      obtain ⟨hf0, hf1, hf2⟩ := HF0.out
      have hld := loadVar35 _ _ _ _ _ _ hf0 hf1 hf2
      refine bodyPost_ret (results_ct Try.results7 _ _ _ ⟨w.heap.size + 1, 0, none⟩ _ rfl hld) rfl ?_
      have ea := HNI.out.rel.arcs
      have ef := HNI.out.rel.finals
      refine ⟨L, .slice Aa s.arcs.length ka, .slice Af s.finals.length kf, by rw [← hke]; rfl, ?_, ?_, HNI.out.inv, ?_, ?_, ?_⟩
      · rw [← ea]
        exact (((HRA.out.setCell (p := ⟨w.heap.size + 1, 0, none⟩) HOA.out _).setCell (p := ⟨w.heap.size + 1, 1, none⟩) HOA.out _).setCell (p := ⟨w.heap.size + 1, 2, none⟩) HOA.out _).mono (by omega)
      · rw [← ef]
        exact (((HRF.out.setCell (p := ⟨w.heap.size + 1, 0, none⟩) HOF.out _).setCell (p := ⟨w.heap.size + 1, 1, none⟩) HOF.out _).setCell (p := ⟨w.heap.size + 1, 2, none⟩) HOF.out _).mono (by omega)
      · intro u hu
        obtain ⟨j, hj⟩ := List.getElem?_of_mem hu
        have hjl := (List.getElem?_eq_some_iff.1 hj).1
        cases hS : u with
        | S o i => rw [hS] at hj; exact HDN.out j (by omega) o i hj
        | T l => rw [hS] at hu; exact HNI.out.inv.aux _ hu (fun h => h) (by simp)
        | W o i b => rw [hS] at hu; exact HNI.out.inv.aux _ hu (fun h => h) (by simp)
      · have := HNI.out.count; have := HNI.out.labs; omega
      · exact ((hbw.setCell (p := ⟨w.heap.size + 1, 0, none⟩) (by simp) _).setCell (p := ⟨w.heap.size + 1, 1, none⟩) (by simp) _).setCell (p := ⟨w.heap.size + 1, 2, none⟩) (by simp) _
end Go.Proofs.Ytglmlbmjppblbaa
