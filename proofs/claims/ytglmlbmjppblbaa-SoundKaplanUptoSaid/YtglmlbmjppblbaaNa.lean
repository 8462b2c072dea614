/- The law: the walk of SoundKaplan. -/
import Derived.Test.YtglmlbmjppblbaaZ
import Derived.Test.YtglmlbmjppblbaaMd
namespace Go.Proofs.Ytglmlbmjppblbaa
open Go.RowKit Go.Kap
set_option maxRecDepth 1000000

theorem within_of {xs : List Int} {m : Int} (h : ∀ x ∈ xs, 1 ≤ x ∧ x ≤ m) : within xs m = true := by
  unfold within
  rw [List.all_eq_true]
  intro x hx
  have := h x hx
  simp
  exact this
theorem within_60 {xs : List Int} {m : Int} (h : within xs m = true) (hm : m ≤ 60) : within xs 60 = true := within_of fun x hx => by have := within_mem h x hx; omega
theorem okC_to {c : ChgM} (h : okC c = true) : within c.to c.kinds = true := by
  unfold okC at h
  simp only [Bool.and_eq_true, decide_eq_true_eq] at h
  obtain ⟨⟨_, h9⟩, _⟩ := h
  exact h9
theorem restF_within {c : ChgM} (h : okC c = true) : ∀ (f : Nat) (o i : List Int), (∀ x ∈ i, 1 ≤ x ∧ x ≤ c.kinds) → ∀ x ∈ restF c f o i, 1 ≤ x ∧ x ≤ c.kinds := by
  intro f
  induction f with
  | zero => intro o i _ x hx; cases hx
  | succ f ih =>
    intro o i hi x hx
    unfold restF at hx
    split at hx
    · cases hx
    · rw [List.mem_append] at hx
      rcases hx with hx | hx
      · unfold stepO at hx
        split at hx
        · exact within_mem (okC_to h) x hx
        · exact hi x (List.mem_of_mem_take hx)
      · exact ih _ _ (fun y hy => hi y (List.mem_of_mem_drop hy)) x hx
theorem apply_within {c : ChgM} (h : okC c = true) {i : List Int} (hi : within i c.kinds = true) : within (applyM c i) c.kinds = true := by
  refine within_of ?_
  unfold applyM
  rw [appF_rest, List.nil_append]
  exact restF_within h _ _ _ (within_mem hi)

/-- A net's machine. -/
theorem net_mach {c : ChgM} (h : okC c = true) {w' : World} {base : Nat} {L : LS} {va vf : Value} (hra : Row w' base 72 5 va L.arcs.length (arcCells L.arcs)) (hrf : Row w' base 75 2 vf L.finals.length (finCells L.finals)) (hi : LInv c [] L) (hl : L.arcs.length ≤ 16000) :
    ∃ A ca F cf, va = .slice A L.arcs.length ca ∧ vf = .slice F L.finals.length cf ∧ MachV w' L.labs.length ⟨A, L.arcs.length, ca, F, L.finals.length, cf⟩ L.arcs L.finals := by
  obtain ⟨A, ca, rfl, ha⟩ := Row.arcsV hra
  obtain ⟨F, cf, rfl, hf⟩ := Row.finsV hrf
  exact ⟨A, ca, F, cf, rfl, rfl, net_good (OkF.of h) hi hl, ha, hf⟩

set_option maxHeartbeats 8000000 in
theorem kaplan_any (ka kb : Int) (HA HB : ChgH) (ca cb : ChgM) (I O : Option Addr) (p c q d : Nat) (inn other : List Int) (w : World) (ha : Chg w w.heap.size HA ca) (hb : Chg w w.heap.size HB cb) (hka : ka = ca.kinds) (hkb : kb = cb.kinds)
    (hi : Ints w w.heap.size I p c inn) (ho : Ints w w.heap.size O q d other) (sa : HA.n3 ≤ 1048576 ∧ HA.n4 ≤ 1048576) (sb : HB.n3 ≤ 1048576 ∧ HB.n4 ≤ 1048576) :
    Calls Try.prog 3 #[.agg #[.int .i64 ka, .slice HA.a1 HA.n1 HA.c1, .slice HA.a2 HA.n2 HA.c2, .slice HA.a3 HA.n3 HA.c3, .slice HA.a4 HA.n4 HA.c4], .agg #[.int .i64 kb, .slice HB.a1 HB.n1 HB.c1, .slice HB.a2 HB.n2 HB.c2, .slice HB.a3 HB.n3 HB.c3, .slice HB.a4 HB.n4 HB.c4], .slice I p c, .slice O q d] w
      (OnePost w (.bool true)) := by
  have hn0 : New w ((w.alloc (.cells #[.int .i64 ka, .slice HA.a1 HA.n1 HA.c1, .slice HA.a2 HA.n2 HA.c2, .slice HA.a3 HA.n3 HA.c3, .slice HA.a4 HA.n4 HA.c4] 25)).alloc (.cells #[.int .i64 kb, .slice HB.a1 HB.n1 HB.c1, .slice HB.a2 HB.n2 HB.c2, .slice HB.a3 HB.n3 HB.c3, .slice HB.a4 HB.n4 HB.c4] 25)) := ((New.refl w).alloc _).alloc _
  have HCA := Lib.hid ha
  have HCB := Lib.hid hb
  have HKA := Lib.hid hka
  have HKB := Lib.hid hkb
  have HI := Lib.hid hi
  have HO := Lib.hid ho
  have hpc := hi.2.1
  have hqd := ho.2.1
  obtain ⟨sa3, sa4⟩ := sa
  obtain ⟨sb3, sb4⟩ := sb
  clear ha hb hka hkb hi ho
  go_enter Try.func3, Try.ntmps3
  go_wp2_with fail
  refine (begun_any _).mono ?_
  rintro en w1 ⟨rfl, hw1⟩
  have hn1 := New.trans hn0 hw1
  have hsz1 : w.heap.size + 2 ≤ w1.heap.size := by have := hw1.size; simp at this; omega
  have hbx : ∀ wr, New w1 wr → ChgAt wr w.heap.size 0 ka HA ∧ ChgAt wr (w.heap.size + 1) 0 kb HB := by
    intro wr hw
    have hnw := New.trans hw1 hw
    constructor
    · intro i hi
      rw [hnw.cell (by simp; omega)]
      simp [go_sem]
    · intro i hi
      rw [hnw.cell (by simp)]
      simp [go_sem]
  have HBX := Lib.hid hbx
  clear hbx
  by_cases hlen : 10 < p
  · go_wp2
    go_ret
    exact ⟨rfl, hn1⟩
  by_cases hlen2 : 20 < q
  · go_wp2
    go_ret
    exact ⟨rfl, hn1⟩
  obtain ⟨X1, X2⟩ := HBX.out w1 (New.refl _)
  obtain ⟨x0, x1, x2, x3, x4⟩ := X1.get
  obtain ⟨y0, y1, y2, y3, y4⟩ := X2.get
  simp only [Nat.zero_add] at x1 x2 x3 x4 y1 y2 y3 y4
  clear X1 X2
  have hlens := HI.out.1
  have HLS := Lib.hid hlens
  clear hlens
  go_wp2_with fail
  refine (applyOuter_any ka HA ca I p c inn _ (HCA.out.new_ hn1) HKA.out (HI.out.new_ hn1) sa3 sa4).mono ?_
  rintro en w2 ⟨XA, Xn, Xc, z, rfl, hz, hz', hw2⟩
  have hn2 := New.trans hn1 hw2
  have HZ := Lib.hid hz
  have HZ' := Lib.hid hz'
  clear hz hz'
  obtain ⟨X1, X2⟩ := HBX.out w2 hw2
  clear x0 x1 x2 x3 x4 y0 y1 y2 y3 y4
  obtain ⟨x0, x1, x2, x3, x4⟩ := X1.get
  obtain ⟨y0, y1, y2, y3, y4⟩ := X2.get
  simp only [Nat.zero_add] at x1 x2 x3 x4 y1 y2 y3 y4
  clear X1 X2
  go_wp2_with fail
  have htwo : Two (w2.alloc (.cells #[.int .i64 ka, .slice HA.a1 HA.n1 HA.c1, .slice HA.a2 HA.n2 HA.c2, .slice HA.a3 HA.n3 HA.c3, .slice HA.a4 HA.n4 HA.c4, .int .i64 kb, .slice HB.a1 HB.n1 HB.c1, .slice HB.a2 HB.n2 HB.c2, .slice HB.a3 HB.n3 HB.c3, .slice HB.a4 HB.n4 HB.c4] 25)) w2.heap.size 0 ka kb HA HB ca cb := by
    refine ⟨?_, ?_, HCA.out.new_ (hn2.alloc _), HCB.out.new_ (hn2.alloc _), HKA.out, HKB.out, ⟨sa3, sa4⟩, ⟨sb3, sb4⟩⟩
    · intro i hi
      rcases i with _ | _ | _ | _ | _ | i <;> first | (simp [go_sem]; done) | omega
    · intro i hi
      rcases i with _ | _ | _ | _ | _ | i <;> first | (simp [go_sem]; done) | omega
  refine (all_any w2.heap.size 0 ka kb HA HB ca cb I p c inn _ htwo (HI.out.new_ (hn2.alloc _)) (by omega)).mono ?_
  rintro en w3 ⟨YA, Yn, Yc, z', rfl, hz', hw3⟩
  have hn23 := New.trans (new_alloc w2 _) hw3
  have hn3 := New.trans hn2 hn23
  have HY := Lib.hid hz'
  clear hz' htwo
  by_cases h0 : z ≠ 0 ∨ z' ≠ 0
  · have hd : ((z != 0) || (z' != 0)) = true := by
      rcases h0 with h | h <;> simp [h]
    go_wp2
    all_goals (go_ret; exact ⟨rfl, hn3⟩)
  have hz0 : z = 0 := by omega
  have hz0' : z' = 0 := by omega
  clear h0
  subst hz0
  subst hz0'
  have hall : allProp ca cb inn := (HY.out rfl).1
  have hall := Lib.hid hall
  have hY : Ints w3 w3.heap.size YA Yn Yc (applyM cb (applyM ca inn)) := (HY.out rfl).2
  have hX : Ints w2 w2.heap.size XA Xn Xc (applyM ca inn) := (HZ.out rfl).2
  have HYI := Lib.hid hY
  have HXI := Lib.hid hX
  have hlx := applyM_len hall.out.1 inn
  have hly := applyM_len hall.out.2.1 (applyM ca inn)
  have hyn := hY.1
  have hxn := hX.1
  have hYc := hY.2.1
  have hXc := hX.2.1
  rw [HLS.out] at hlx
  have hX20 : Xn ≤ 20 := by omega
  have hY40 : Yn ≤ 40 := by omega
  have hok60 := okC_frm hall.out.1
  clear hY hX hyn hxn hlx hly HZ HZ' HY
  obtain ⟨X1, X2⟩ := HBX.out w3 (hw2.trans hn23)
  clear x0 x1 x2 x3 x4 y0 y1 y2 y3 y4
  obtain ⟨x0, x1, x2, x3, x4⟩ := X1.get
  obtain ⟨y0, y1, y2, y3, y4⟩ := X2.get
  simp only [Nat.zero_add] at x1 x2 x3 x4 y1 y2 y3 y4
  clear X1 X2
  go_wp2_with fail
  refine (net_any ka HA ca _ (HCA.out.new_ hn3) HKA.out hall.out.1 sa3 sa4).mono ?_
  rintro en w4 ⟨L, va, vf, rfl, hra, hrf, hli, hld, hll, hw4⟩
  obtain ⟨MA, Mc, MF, Mg, rfl, rfl, hM⟩ := net_mach hall.out.1 hra hrf hli hll
  obtain ⟨Mn, hMn⟩ : ∃ n, n = L.arcs.length := ⟨_, rfl⟩
  obtain ⟨Mf, hMf⟩ : ∃ n, n = L.finals.length := ⟨_, rfl⟩
  obtain ⟨Ml, hMl⟩ : ∃ n, n = L.labs.length := ⟨_, rfl⟩
  rw [← hMn, ← hMf, ← hMl] at hM
  rw [← hMn, ← hMf, ← hMl]
  have HM := Lib.hid hM
  have hMn16 : Mn ≤ 16000 := by omega
  have hMp : Mn ≤ Mc ∧ Mc ≤ 9223372036854775807 := hM.arcsV.2.1
  have HLI := Lib.hid hli
  have HLD := Lib.hid hld
  have HMN := Lib.hid hMn
  have HLL := Lib.hid hll
  clear hra hrf hM hli hld hMn hMf hMl hll
  have hn4 := New.trans hn3 hw4
  have hn14 := New.trans hw2 (New.trans hn23 hw4)
  have hsz4 : w.heap.size + 2 ≤ w4.heap.size := by have := hn14.size; omega
  have hn45 := new_alloc w4 (.cells #[.int .i64 Ml, .slice MA Mn Mc, .slice MF Mf Mg] 35)
  obtain ⟨X1, X2⟩ := HBX.out _ (New.trans hn14 hn45)
  clear x0 x1 x2 x3 x4 y0 y1 y2 y3 y4
  obtain ⟨x0, x1, x2, x3, x4⟩ := X1.get
  obtain ⟨y0, y1, y2, y3, y4⟩ := X2.get
  simp only [Nat.zero_add] at x1 x2 x3 x4 y1 y2 y3 y4
  clear X1 X2
  go_wp2_with fail
  refine (net_any kb HB cb _ (HCB.out.new_ (hn4.trans hn45)) HKB.out hall.out.2.1 sb3 sb4).mono ?_
  rintro en w6 ⟨L', va, vf, rfl, hra, hrf, hli, hld, hll, hw6⟩
  obtain ⟨NA, Nc, NF, Ng, rfl, rfl, hN⟩ := net_mach hall.out.2.1 hra hrf hli hll
  obtain ⟨Nn, hNn⟩ : ∃ n, n = L'.arcs.length := ⟨_, rfl⟩
  obtain ⟨Nf, hNf⟩ : ∃ n, n = L'.finals.length := ⟨_, rfl⟩
  obtain ⟨Nl, hNl⟩ : ∃ n, n = L'.labs.length := ⟨_, rfl⟩
  rw [← hNn, ← hNf, ← hNl] at hN
  rw [← hNn, ← hNf, ← hNl]
  have HN := Lib.hid hN
  have hNn16 : Nn ≤ 16000 := by omega
  have hNp : Nn ≤ Nc ∧ Nc ≤ 9223372036854775807 := hN.arcsV.2.1
  have HLI' := Lib.hid hli
  have HLD' := Lib.hid hld
  have HNN := Lib.hid hNn
  clear hra hrf hN hli hld hNn hNf hNl hll
  have hn67 := new_alloc w6 (.cells #[.int .i64 Nl, .slice NA Nn Nc, .slice NF Nf Ng] 35)
  have hn47 := New.trans hn45 (New.trans hw6 hn67)
  have hn17 := New.trans hn14 hn47
  have hn7 := New.trans hn4 hn47
  have hsz6 : w4.heap.size + 1 ≤ w6.heap.size := by have := hw6.size; simp at this; omega
  have hcell : ∀ wr, New (w6.alloc (.cells #[.int .i64 Nl, .slice NA Nn Nc, .slice NF Nf Ng] 35)) wr →
      wr.cell? ⟨w.heap.size, 0, none⟩ = some (.int .i64 ka) ∧
      (wr.cell? ⟨w4.heap.size, 0, none⟩ = some (.int .i64 Ml) ∧ wr.cell? ⟨w4.heap.size, 1, none⟩ = some (.slice MA Mn Mc) ∧ wr.cell? ⟨w4.heap.size, 2, none⟩ = some (.slice MF Mf Mg)) ∧
      (wr.cell? ⟨w6.heap.size, 0, none⟩ = some (.int .i64 Nl) ∧ wr.cell? ⟨w6.heap.size, 1, none⟩ = some (.slice NA Nn Nc) ∧ wr.cell? ⟨w6.heap.size, 2, none⟩ = some (.slice NF Nf Ng)) := by
    intro wr hw
    have h6 := New.trans hw6 (New.trans hn67 hw)
    refine ⟨((HBX.out wr (New.trans hn17 hw)).1.get).1, ⟨?_, ?_, ?_⟩, ?_, ?_, ?_⟩
    · rw [h6.cell (by simp)]; simp [go_sem]
    · rw [h6.cell (by simp)]; simp [go_sem]
    · rw [h6.cell (by simp)]; simp [go_sem]
    · rw [hw.cell (by simp)]; simp [go_sem]
    · rw [hw.cell (by simp)]; simp [go_sem]
    · rw [hw.cell (by simp)]; simp [go_sem]
  have HC := Lib.hid hcell
  clear hcell x0 x1 x2 x3 x4 y0 y1 y2 y3 y4
  obtain ⟨x0, ⟨m0, m1, m2⟩, n0, n1, n2⟩ := HC.out _ (New.refl _)
  have hwin : within inn 60 = true := within_60 hall.out.2.2.2 (by have := (OkF.of hall.out.1).k4; omega)
  have hwx := apply_within hall.out.1 hall.out.2.2.2
  have hwy : within (applyM cb (applyM ca inn)) cb.kinds = true := apply_within hall.out.2.1 (by rw [← hall.out.2.2.1]; exact hwx)
  have hwx60 : within (applyM ca inn) 60 = true := within_60 hwx (by have := (OkF.of hall.out.1).k4; omega)
  have hwy60 : within (applyM cb (applyM ca inn)) 60 = true := within_60 hwy (by have := (OkF.of hall.out.2.1).k4; omega)
  have hrx : Reads L.arcs L.finals inn (applyM ca inn) := (net_reads (OkF.of hall.out.1) HLI.out HLD.out (within_mem hall.out.2.2.2) _).2 rfl
  have hry : Reads L'.arcs L'.finals (applyM ca inn) (applyM cb (applyM ca inn)) := (net_reads (OkF.of hall.out.2.1) HLI'.out HLD'.out (within_mem (by rw [← hall.out.2.2.1]; exact hwx)) _).2 rfl
  have HRX := Lib.hid hrx
  have HRY := Lib.hid hry
  have HWI := Lib.hid hwin
  have HWX := Lib.hid hwx60
  have HWY := Lib.hid hwy60
  have HW0 := Lib.hid hwx
  have hn37 := New.trans hw4 hn47
  clear hrx hry hwin hwx60 hwy60 hwx hwy
  go_wp2_with fail
  refine (cost_any Ml ⟨MA, Mn, Mc, MF, Mf, Mg⟩ L.arcs L.finals _ (HM.out.new_ hn47) I XA p c Xn Xc inn (applyM ca inn) (HI.out.new_ hn7) (HXI.out.new_ (New.trans hn23 hn37)) (by omega) (by omega) HWI.out HWX.out).mono ?_
  rintro en w8 ⟨b, hb0, rfl, hw8⟩
  have hb := hb0.2 HRX.out
  clear hb0
  subst hb
  clear x0 m0 m1 m2 n0 n1 n2
  obtain ⟨x0, ⟨m0, m1, m2⟩, n0, n1, n2⟩ := HC.out _ hw8
  have hn8 := New.trans hn7 hw8
  go_wp2_with fail
  refine (within_any O q d other ka _ (HO.out.new_ hn8)).mono ?_
  rintro en w9 ⟨rfl, rfl⟩
  have hmul : IntKind.i64.wrap ((Mn : Int) * (Nn : Int)) = (Mn : Int) * (Nn : Int) := by
    have h1 : 0 ≤ (Mn : Int) * (Nn : Int) := Int.mul_nonneg (by omega) (by omega)
    have h2 : (Mn : Int) * (Nn : Int) ≤ 16000 * 16000 := Int.mul_le_mul (by omega) (by omega) (by omega) (by omega)
    exact IntWalk.i64_in _ (by omega)
  have HX0 := Lib.hid hn8
  have hbr : within other ka = false ∨ (within other ka = true ∧ other = applyM ca inn) ∨ (within other ka = true ∧ other ≠ applyM ca inn) := by
    cases within other ka
    · exact .inl rfl
    · by_cases h : other = applyM ca inn
      · exact .inr (.inl ⟨rfl, h⟩)
      · exact .inr (.inr ⟨rfl, h⟩)
  generalize Value.agg #[.int .i64 ka, .slice HA.a1 HA.n1 HA.c1, .slice HA.a2 HA.n2 HA.c2, .slice HA.a3 HA.n3 HA.c3, .slice HA.a4 HA.n4 HA.c4] = VA
  generalize Value.agg #[.int .i64 kb, .slice HB.a1 HB.n1 HB.c1, .slice HB.a2 HB.n2 HB.c2, .slice HB.a3 HB.n3 HB.c3, .slice HB.a4 HB.n4 HB.c4] = VB
  have HN7 := Lib.hid hw8
  have HN7 := Lib.hid hw8
  rcases hbr with h | ⟨h, h'⟩ | ⟨h, h'⟩
  · rw [h]
    clear h
    by_cases hbig : (40000 : Int) < (Mn : Int) * (Nn : Int)
    · have hbd : decide ((40000 : Int) < (Mn : Int) * (Nn : Int)) = true := by simpa using hbig
      go_wp2
      go_ret
      exact ⟨rfl, HX0.out⟩
    · have hbd : decide ((40000 : Int) < (Mn : Int) * (Nn : Int)) = false := by simpa using hbig
      have hprod : L.arcs.length * L'.arcs.length ≤ 40000 := by
        rw [← HMN.out, ← HNN.out]
        have := Int.not_lt.1 hbig
        rw [← Int.natCast_mul] at this
        exact Int.ofNat_le.1 this
      have HPR := Lib.hid hprod
      clear hprod
      go_wp2_with fail
      refine (through_any Ml Nl ⟨MA, Mn, Mc, MF, Mf, Mg⟩ ⟨NA, Nn, Nc, NF, Nf, Ng⟩ L.arcs L'.arcs L.finals L'.finals _ (HM.out.new_ (New.trans hn47 HN7.out)) (HN.out.new_ (New.trans hn67 HN7.out)) HPR.out).mono ?_
      rintro en w11 ⟨hw11, rfl | ⟨n, va, vf, X, fins, rfl, hra, hrf, hgood, hthru⟩⟩
      · have hn11 := New.trans HX0.out hw11
        go_wp2
        go_ret
        exact ⟨rfl, hn11.alloc _⟩
      · obtain ⟨A, ca', rfl, hva⟩ := Row.arcsV hra
        obtain ⟨F, cf', rfl, hvf⟩ := Row.finsV hrf
        have hmx : MachV w11 n ⟨A, X.length, ca', F, fins.length, cf'⟩ X fins := ⟨hgood, hva, hvf⟩
        have hr := hthru _ _ _ HRX.out HRY.out
        have HMX := Lib.hid hmx
        have HR := Lib.hid hr
        have hn11 := New.trans HX0.out hw11
        have hn711 := New.trans HN7.out hw11
        have ha11 := new_alloc w11 (.cells #[.int .i64 n, .slice A X.length ca', .slice F fins.length cf'] 35)
        clear hra hrf hgood hthru hva hvf hmx hr
        go_wp2_with fail
        refine (cost_any n ⟨A, X.length, ca', F, fins.length, cf'⟩ X fins _ (HMX.out.new_ ha11) I YA p c Yn Yc inn (applyM cb (applyM ca inn)) (HI.out.new_ (New.trans hn11 ha11)) (HYI.out.new_ (New.trans hn37 (New.trans hn711 ha11))) (by omega) (by omega) HWI.out HWY.out).mono ?_
        rintro en w13 ⟨b, hb0, rfl, hw13⟩
        have hb := hb0.2 HR.out
        clear hb0
        subst hb
        have hn13 := New.trans hn11 (New.trans ha11 hw13)
        go_wp2
        go_ret
        exact ⟨rfl, hn13⟩
  · rw [h]
    clear h
    have HE := Lib.hid h'
    clear h'
    go_wp2_with fail
    refine (same_any O XA q d Xn Xc other (applyM ca inn) _ (HO.out.new_ hn8) (HXI.out.new_ (New.trans (New.trans hn23 hn37) hw8))).mono ?_
    rintro en w9 ⟨rfl, qq, hq⟩
    rw [show decide (other = applyM ca inn) = true from by simpa using HE.out]
    have hn89 : New w8 w9 := by rw [hq]; exact (New.refl w8).drewN _
    have HN9 := Lib.hid (New.trans hw8 hn89)
    have HX9 := Lib.hid (New.trans hn8 hn89)
    clear hq x0 m0 m1 m2 n0 n1 n2
    obtain ⟨x0, ⟨m0, m1, m2⟩, n0, n1, n2⟩ := HC.out _ HN9.out
    by_cases hbig : (40000 : Int) < (Mn : Int) * (Nn : Int)
    · have hbd : decide ((40000 : Int) < (Mn : Int) * (Nn : Int)) = true := by simpa using hbig
      go_wp2
      go_ret
      exact ⟨rfl, HX9.out⟩
    · have hbd : decide ((40000 : Int) < (Mn : Int) * (Nn : Int)) = false := by simpa using hbig
      have hprod : L.arcs.length * L'.arcs.length ≤ 40000 := by
        rw [← HMN.out, ← HNN.out]
        have := Int.not_lt.1 hbig
        rw [← Int.natCast_mul] at this
        exact Int.ofNat_le.1 this
      have HPR := Lib.hid hprod
      clear hprod
      go_wp2_with fail
      refine (through_any Ml Nl ⟨MA, Mn, Mc, MF, Mf, Mg⟩ ⟨NA, Nn, Nc, NF, Nf, Ng⟩ L.arcs L'.arcs L.finals L'.finals _ (HM.out.new_ (New.trans hn47 HN9.out)) (HN.out.new_ (New.trans hn67 HN9.out)) HPR.out).mono ?_
      rintro en w11 ⟨hw11, rfl | ⟨n, va, vf, X, fins, rfl, hra, hrf, hgood, hthru⟩⟩
      · have hn11 := New.trans HX9.out hw11
        go_wp2
        go_ret
        exact ⟨rfl, hn11.alloc _⟩
      · obtain ⟨A, ca', rfl, hva⟩ := Row.arcsV hra
        obtain ⟨F, cf', rfl, hvf⟩ := Row.finsV hrf
        have hmx : MachV w11 n ⟨A, X.length, ca', F, fins.length, cf'⟩ X fins := ⟨hgood, hva, hvf⟩
        have hr := hthru _ _ _ HRX.out HRY.out
        have HMX := Lib.hid hmx
        have HR := Lib.hid hr
        have hn11 := New.trans HX9.out hw11
        have hn711 := New.trans HN9.out hw11
        have ha11 := new_alloc w11 (.cells #[.int .i64 n, .slice A X.length ca', .slice F fins.length cf'] 35)
        clear hra hrf hgood hthru hva hvf hmx hr
        go_wp2_with fail
        refine (cost_any n ⟨A, X.length, ca', F, fins.length, cf'⟩ X fins _ (HMX.out.new_ ha11) I YA p c Yn Yc inn (applyM cb (applyM ca inn)) (HI.out.new_ (New.trans hn11 ha11)) (HYI.out.new_ (New.trans hn37 (New.trans hn711 ha11))) (by omega) (by omega) HWI.out HWY.out).mono ?_
        rintro en w13 ⟨b, hb0, rfl, hw13⟩
        have hb := hb0.2 HR.out
        clear hb0
        subst hb
        have hn13 := New.trans hn11 (New.trans ha11 hw13)
        go_wp2
        go_ret
        exact ⟨rfl, hn13⟩
  · rw [h]
    have HE := Lib.hid h'
    have HWO := Lib.hid h
    clear h h'
    go_wp2_with fail
    refine (same_any O XA q d Xn Xc other (applyM ca inn) _ (HO.out.new_ hn8) (HXI.out.new_ (New.trans (New.trans hn23 hn37) hw8))).mono ?_
    rintro en w9 ⟨rfl, qq, hq⟩
    rw [show decide (other = applyM ca inn) = false from by simpa using HE.out]
    have hn89 : New w8 w9 := by rw [hq]; exact (New.refl w8).drewN _
    have hw9 := New.trans hw8 hn89
    have hn9 := New.trans hn8 hn89
    have hwo60 : within other 60 = true := within_60 HWO.out (by rw [HKA.out]; have := (OkF.of hall.out.1).k4; omega)
    have HWO60 := Lib.hid hwo60
    clear hq x0 m0 m1 m2 n0 n1 n2 hwo60
    obtain ⟨x0, ⟨m0, m1, m2⟩, n0, n1, n2⟩ := HC.out _ hw9
    go_wp2_with fail
    refine (cost_any Ml ⟨MA, Mn, Mc, MF, Mf, Mg⟩ L.arcs L.finals _ (HM.out.new_ (New.trans hn47 hw9)) I O p c q d inn other (HI.out.new_ hn9) (HO.out.new_ hn9) (by omega) (by omega) HWI.out HWO60.out).mono ?_
    rintro en w10 ⟨b, hb0, rfl, hw10⟩
    have hb : b = false := by
      cases b
      · rfl
      · exact absurd ((net_reads (OkF.of hall.out.1) HLI.out HLD.out (within_mem hall.out.2.2.2) _).1 (hb0.1 rfl)) HE.out
    clear hb0
    subst hb
    have HN9 := Lib.hid (New.trans hw9 hw10)
    have HX9 := Lib.hid (New.trans hn9 hw10)
    clear x0 m0 m1 m2 n0 n1 n2
    obtain ⟨x0, ⟨m0, m1, m2⟩, n0, n1, n2⟩ := HC.out _ HN9.out
    by_cases hbig : (40000 : Int) < (Mn : Int) * (Nn : Int)
    · have hbd : decide ((40000 : Int) < (Mn : Int) * (Nn : Int)) = true := by simpa using hbig
      go_wp2
      go_ret
      exact ⟨rfl, HX9.out⟩
    · have hbd : decide ((40000 : Int) < (Mn : Int) * (Nn : Int)) = false := by simpa using hbig
      have hprod : L.arcs.length * L'.arcs.length ≤ 40000 := by
        rw [← HMN.out, ← HNN.out]
        have := Int.not_lt.1 hbig
        rw [← Int.natCast_mul] at this
        exact Int.ofNat_le.1 this
      have HPR := Lib.hid hprod
      clear hprod
      go_wp2_with fail
      refine (through_any Ml Nl ⟨MA, Mn, Mc, MF, Mf, Mg⟩ ⟨NA, Nn, Nc, NF, Nf, Ng⟩ L.arcs L'.arcs L.finals L'.finals _ (HM.out.new_ (New.trans hn47 HN9.out)) (HN.out.new_ (New.trans hn67 HN9.out)) HPR.out).mono ?_
      rintro en w11 ⟨hw11, rfl | ⟨n, va, vf, X, fins, rfl, hra, hrf, hgood, hthru⟩⟩
      · have hn11 := New.trans HX9.out hw11
        go_wp2
        go_ret
        exact ⟨rfl, hn11.alloc _⟩
      · obtain ⟨A, ca', rfl, hva⟩ := Row.arcsV hra
        obtain ⟨F, cf', rfl, hvf⟩ := Row.finsV hrf
        have hmx : MachV w11 n ⟨A, X.length, ca', F, fins.length, cf'⟩ X fins := ⟨hgood, hva, hvf⟩
        have hr := hthru _ _ _ HRX.out HRY.out
        have HMX := Lib.hid hmx
        have HR := Lib.hid hr
        have hn11 := New.trans HX9.out hw11
        have hn711 := New.trans HN9.out hw11
        have ha11 := new_alloc w11 (.cells #[.int .i64 n, .slice A X.length ca', .slice F fins.length cf'] 35)
        clear hra hrf hgood hthru hva hvf hmx hr
        go_wp2_with fail
        refine (cost_any n ⟨A, X.length, ca', F, fins.length, cf'⟩ X fins _ (HMX.out.new_ ha11) I YA p c Yn Yc inn (applyM cb (applyM ca inn)) (HI.out.new_ (New.trans hn11 ha11)) (HYI.out.new_ (New.trans hn37 (New.trans hn711 ha11))) (by omega) (by omega) HWI.out HWY.out).mono ?_
        rintro en w13 ⟨b, hb0, rfl, hw13⟩
        have hb := hb0.2 HR.out
        clear hb0
        subst hb
        have hn13 := New.trans hn11 (New.trans ha11 hw13)
        go_wp2
        go_ret
        exact ⟨rfl, hn13⟩
end Go.Proofs.Ytglmlbmjppblbaa
