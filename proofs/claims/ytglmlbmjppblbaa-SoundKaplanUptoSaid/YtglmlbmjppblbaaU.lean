/- machine.Check of a right machine: it is right. -/
import Derived.Test.YtglmlbmjppblbaaT
namespace Go.Proofs.Ytglmlbmjppblbaa
open Go.RowKit Go.Kap Go.Maps
set_option maxRecDepth 100000

theorem getD_mem {α : Type} {l : List α} {j : Nat} (h : j < l.length) (d : α) : l.getD j d ∈ l := by
  rw [List.getD_eq_getElem?_getD, List.getElem?_eq_getElem h]
  exact List.getElem_mem h

theorem only_one (f : Int) : ∀ x v : Int, (if x = f then some 1 else none) = some v → v = 1 := by
  intro x v h
  split at h
  · injection h with h; exact h.symm
  · cases h
def ZeroPost (w : World) (en : Ending) (w' : World) : Prop := en = .returned (.int .i64 0) ∧ New w w'

set_option maxHeartbeats 1000000 in
theorem mcheck_any (n : Nat) (h : MachH) (arcs : List ArcM) (fins : List Int) (w : World) (hm : MachV w n h arcs fins) :
    Calls Try.prog 23 #[machVal n h] w (ZeroPost w) := by
  obtain ⟨A, na, ca, F, nf, cf⟩ := h
  obtain ⟨hg, ha, hf⟩ := hm
  dsimp only at ha hf
  show Calls Try.prog 23 #[.agg #[.int .i64 n, .slice A na ca, .slice F nf cf]] w (ZeroPost w)
  have hn0 := new_alloc w (.cells #[.int .i64 n, .slice A na ca, .slice F nf cf] 35)
  have hbx : ∀ wr, New (w.alloc (.cells #[.int .i64 n, .slice A na ca, .slice F nf cf] 35)) wr → wr.cell? ⟨w.heap.size, 0, none⟩ = some (.int .i64 n) ∧ wr.cell? ⟨w.heap.size, 1, none⟩ = some (.slice A na ca) ∧ wr.cell? ⟨w.heap.size, 2, none⟩ = some (.slice F nf cf) := by
    intro wr hw
    refine ⟨?_, ?_, ?_⟩ <;> (rw [hw.cell (by simp)]; simp [go_sem])
  have HBX := Lib.hid hbx
  clear hbx
  have h1 := hg.n1
  have h2 := hg.n2
  have h3 : na ≤ 20000 := by rw [← ha.1]; exact hg.len
  have h4 : nf ≤ 1 := by rw [← hf.1]; exact hg.fin
  have hca := ha.2.1
  have hcf := hf.2.1
  have HA := Lib.hid ha
  have HF := Lib.hid hf
  have HG := Lib.hid hg
  clear ha hf hg
  have q1 : ¬ (n : Int) < 1 := by omega
  have q2 : ¬ (3000 : Int) < n := by omega
  have q3 : ¬ (20000 : Int) < na := by omega
  have q4 : ¬ n < nf := by omega
  have hmm := @run_makeMap Try.prog
  go_enter Try.func23, Try.ntmps23
  go_wp2
  go_loopw [39] (fun i wr => ∃ j : Nat, j ≤ na ∧ i = .int .i64 j ∧ New (w.alloc (.cells #[.int .i64 n, .slice A na ca, .slice F nf cf] 35)) wr) (fun i _ => na - (intOf i).toNat)
  case atStart => exact ⟨0, Nat.zero_le _, rfl, New.refl _⟩
  case round =>
    obtain ⟨j, hj, rfl, hw⟩ := hrel
    obtain ⟨b0, b1, b2⟩ := HBX.out wr hw
    by_cases hjn : j < na
    · obtain ⟨b, off, rfl, hc⟩ := HA.out.2.2 (by omega)
      have hcj := (hc j hjn).new_ (hn0.trans (hw.mono (by simp)))
      have hbd := HG.out.arc (arcs.getD j arcD) (getD_mem (by rw [HA.out.1]; exact hjn) _)
      generalize arcs.getD j arcD = a at *
      obtain ⟨f, t, i, o⟩ := a
      obtain ⟨c0, c1, c2, c3, c4⟩ := hcj
      dsimp only at *
      obtain ⟨⟨f1, f2⟩, ⟨t1, t2⟩, ⟨i1, i2⟩, ⟨o1, o2⟩⟩ := hbd
      have hnw := hw.alloc (.cells #[.int .i64 f, .int .i64 t, .int .i64 i, .int .i64 o, .int .i64 0] 72)
      have b0' := (HBX.out _ hnw).1
      clear hc
      go_wp2_with fail
      refine (is41 f n w.heap.size _ b0' f1 f2).mono ?_
      rintro e w' ⟨rfl, rfl⟩
      go_wp2_with fail
      refine (is41 t n w.heap.size _ b0' t1 t2).mono ?_
      rintro e w' ⟨rfl, rfl⟩
      go_wp2_with fail
      refine (sym42 i _ i1 i2).mono ?_
      rintro e w' ⟨rfl, rfl⟩
      go_wp2_with fail
      refine (sym42 o _ o1 o2).mono ?_
      rintro e w' ⟨rfl, rfl⟩
      go_wp2_with fail
      refine (cost43 0 _ (by omega) (by omega)).mono ?_
      rintro e w' ⟨rfl, rfl⟩
      go_wp2
      go_roundw
      case rel => exact ⟨j + 1, by omega, by go_num, hnw⟩
      case measure => simp [intOf]; omega
    · have hjn' : j = na := by omega
      subst hjn'
      obtain ⟨w1, rfl⟩ : ∃ w1 : World, w1 = wr := ⟨_, rfl⟩
      have hw0 := hn0.trans (hw.mono (by simp))
      have hmd := Lib.hid (MapI.made int3 w1 3)
      have hsz : w.heap.size < w1.heap.size := by have := hw.size; simp at this; omega
      go_wp2
      go_loopw [81] (fun i w2 => ∃ (k : Nat) (fm : Int → Option Int), k ≤ nf ∧ i = .int .i64 k ∧ MapI int3 w2 3 w1.heap.size k fm ∧ (∀ x v, fm x = some v → v = 1) ∧ (k = 0 → fm = fun _ => none) ∧ Below w1.heap.size w1 w2 ∧ w1.heap.size < w2.heap.size) (fun i _ => nf - (intOf i).toNat)
      case atStart => exact ⟨0, fun _ => none, Nat.zero_le _, rfl, hmd.out, (fun x v h => by cases h), fun _ => rfl, new_alloc w1 _, by simp⟩
      case round =>
        obtain ⟨w2, rfl⟩ : ∃ w2 : World, w2 = wr := ⟨_, rfl⟩
        obtain ⟨k, fm, hk, rfl, hmi, hone, hk0, hb2, hz2⟩ := hrel
        have hw2 := New.trans hw hb2
        obtain ⟨d0, d1, d2⟩ := HBX.out w2 hw2
        have hww := New.trans hw0 hb2
        have HONE := Lib.hid hone
        have HK0 := Lib.hid hk0
        have HMI := Lib.hid hmi
        clear hone hk0 hmi
        by_cases hkn : k < nf
        · have hke : k = 0 := by omega
          subst hke
          have hfm := HK0.out rfl
          subst hfm
          obtain ⟨b, off, rfl, hc⟩ := HF.out.2.2 (by omega)
          obtain ⟨e0, e1⟩ := hc 0 (by omega)
          simp only [Nat.zero_mul, Nat.add_zero] at e0 e1
          have hbd := HG.out.fins (fins.getD 0 0) (getD_mem (by rw [HF.out.1]; omega) _)
          generalize fins.getD 0 0 = f at *
          have e0' := hww.cell_ e0
          have e1' := hww.cell_ e1
          clear hc e0 e1
          obtain ⟨f1, f2⟩ := hbd
          have hnw := hw2.alloc (.cells #[.int .i64 f, .int .i64 0] 75)
          have b0' := (HBX.out _ hnw).1
          have wff : (Lit.int .i64 f).wf = true := WalkArith.wf_i64 (by omega)
          have WFF := Lib.hid wff
          clear wff
          have HM2 := Lib.hid (HMI.out.alloc (.cells #[.int .i64 f, .int .i64 0] 75))
          have hbl : Below w1.heap.size w1 (w2.alloc (.cells #[.int .i64 f, .int .i64 0] 75)) := hb2.alloc hb2.size _
          go_wp2_with fail
          refine (is41 f n w.heap.size _ b0' f1 f2).mono ?_
          rintro e w' ⟨rfl, rfl⟩
          go_wp2_with fail
          refine (cost43 0 _ (by omega) (by omega)).mono ?_
          rintro e w' ⟨rfl, rfl⟩
          go_wp2_with (first
            | (at_lookup; refine wpList_lookup_mapI rfl _ _ 97 rfl law3 Try.underlying97 Try.underlying3 (zero3 _) rfl HM2.out f rfl WFF.out none (Lib.hid rfl) ?_)
            | (at_mapUpdate; refine wpList_update_mapI rfl _ _ _ 97 rfl law3 Try.underlying97 Try.underlying3 rfl HM2.out (by unfold maxLen; omega) f rfl WFF.out 1 rfl (by decide) ?_))
          intro w3 hm3 hg3
          have hb3 : Below w1.heap.size w1 w3 := hbl.grown hg3 (by simp; omega) (fun k hk => by cases hk; exact Nat.le_refl _)
          have hz3 : w1.heap.size < w3.heap.size := hm3.lt
          have HM3 := Lib.hid hm3
          clear hm3 hg3 hbl
          go_wp2
          go_roundw
          case rel => exact ⟨1, _, by omega, by go_num, HM3.out, only_one f, (fun h => by omega), hb3, hz3⟩
          case measure => simp [intOf]; omega
        · obtain ⟨D, hown, hD⟩ := HMI.out
          have HD := Lib.hid hD
          clear hD
          go_wp2_with (at_range; refine wpList_range_own _ rfl _ 97 rfl 3 3 law3 Try.underlying97 _ w1.heap.size k D rfl hown ?_; intro w4 hrg0 hg0 hs0)
          go_frame
          have hn4 : New w w4 := hww.grown hg0 (fun k hk => by cases hk)
          go_loopw [12] (fun _ w5 => ∃ (left : Lit → Bool) (cnt : Nat), w5.ranges Try.prog 3 (plainElem Try.prog 3) w1.heap.size w2.heap.size k D left cnt ∧ (∀ z, left z = true → Maps.has D z = true) ∧ New w w5)
            (fun _ w5 => w5.rangeLeft w1.heap.size w2.heap.size)
          case atStart => exact ⟨_, _, hrg0, (fun _ h => h), hn4⟩
          case round =>
            obtain ⟨w5, rfl⟩ : ∃ w5 : World, w5 = wr := ⟨_, rfl⟩
            obtain ⟨left, cnt, hrg, hlf, hn5⟩ := hrel
            have HLF := Lib.hid hlf
            clear hlf
            go_wp2_with (at_next; refine wpList_next_ranges_ii _ rfl _ rfl 3 3 .i64 .i64 law3 Try.underlying3 Try.underlying3 w1.heap.size w2.heap.size k _ _ _ rfl hrg ?_ ?_)
            · intro _ _
              go_wp2
              go_ret
              exact ⟨rfl, hn5⟩
            · intro x c w6 cnt1 hwx hwc hlx hat hrg1 hlt hg1 hs1 hen
              have hc1 : c = 1 := by
                have h0 := HLF.out _ hlx
                obtain ⟨h5, h6⟩ := HD.out x (.int .i64 x) (keyOf_int_mk Try.underlying3 hwx)
                rw [h0] at h5
                obtain ⟨v, hv⟩ := Option.isSome_iff_exists.1 h5.symm
                have h7 := h6 v hv
                rw [hat] at h7
                injection h7 with h7
                injection h7 with _ h7
                rw [h7]; exact HONE.out x v hv
              subst hc1
              have hn6 : New w w6 := hn5.grown hg1 (fun k hk => by cases hk; omega)
              have HAT := Lib.hid hat
              have HRG := Lib.hid hrg1
              have HLT := Lib.hid hlt
              have HRG0 := Lib.hid hrg
              clear hat hrg1 hlt hg1 hs1 hlx hwx hwc hrg
              go_wp2
              go_roundw
              case rel => exact ⟨_, cnt1, HRG.out, (fun z hz => HLF.out z (by simp at hz; exact hz.1)), hn6⟩
              case measure => rw [HRG.out.left_eq, HRG0.out.left_eq]; exact HLT.out
end Go.Proofs.Ytglmlbmjppblbaa
