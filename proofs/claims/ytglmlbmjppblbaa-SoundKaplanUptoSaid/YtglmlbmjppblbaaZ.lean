/- machine.Cost: the walk. -/
import Derived.Test.YtglmlbmjppblbaaY
import Derived.Deep.DeepCutAuto
import Derived.Deep.CutBlock
namespace Go.Proofs.Ytglmlbmjppblbaa
open Go.RowKit Go.Kap Go.Maps
set_option maxRecDepth 1000000

def CostPost (arcs : List ArcM) (fins inn out : List Int) (w : World) (en : Ending) (w' : World) : Prop :=
  ∃ b : Bool, (b = true ↔ Reads arcs fins inn out) ∧ en = .returned (.tuple #[.int .i64 0, .bool b, .int .i64 0]) ∧ New w w'

/-- Behind the reading of an arc's symbols. -/
structure MidW (wr : World) (a : ArcM) (i j : Nat) (wx : World) : Prop where
  new : New wr wx
  size : wx.heap.size = wr.heap.size + 2
  ab : wx.heap[wr.heap.size]? = some (.cells #[.int .i64 a.f, .int .i64 a.t, .int .i64 a.i, .int .i64 a.o, .int .i64 0] 72 (0, 0))
  qb : wx.heap[wr.heap.size + 1]? = some (.cells #[.int .i64 a.t, .int .i64 i, .int .i64 j] 68 (0, 0))
theorem MidW.mk_ (wr : World) (a : ArcM) (i j : Nat) {x y : Int} (hx : x = i) (hy : y = j) : MidW wr a i j ((wr.alloc (.cells #[.int .i64 a.f, .int .i64 a.t, .int .i64 a.i, .int .i64 a.o, .int .i64 0] 72)).alloc (.cells #[.int .i64 a.t, .int .i64 x, .int .i64 y] 68)) := by
  subst hx hy
  refine ⟨((New.refl wr).alloc _).alloc _, by simp, ?_, ?_⟩
  · rw [Below.heap_alloc _ _ _ (by simp)]
    exact heap_alloc_new wr _
  · have := heap_alloc_new (wr.alloc (.cells #[.int .i64 a.f, .int .i64 a.t, .int .i64 a.i, .int .i64 a.o, .int .i64 0] 72)) (.cells #[.int .i64 a.t, .int .i64 i, .int .i64 j] 68)
    simpa using this
theorem MidW.drewN {wr wx : World} {a : ArcM} {i j : Nat} (h : MidW wr a i j wx) (k : Nat) : MidW wr a i j (wx.drewN k) := ⟨h.new.drewN k, h.size, h.ab, h.qb⟩
theorem MidW.seti {wr wx : World} {a : ArcM} {i j : Nat} (h : MidW wr a i j wx) (i' : Nat) {x : Int} (hx : x = i') : MidW wr a i' j (wx.setCell ⟨wr.heap.size + 1, 1, none⟩ (.int .i64 x)) := by
  subst hx
  refine ⟨h.new.setCell (p := ⟨wr.heap.size + 1, 1, none⟩) (by simp) _, (by simp [World.setCell, h.size]), ?_, ?_⟩
  · rw [Below.heap_setCell _ _ _ _ (by simp)]; exact h.ab
  · rw [blk_set h.qb]; rfl
theorem MidW.setj {wr wx : World} {a : ArcM} {i j : Nat} (h : MidW wr a i j wx) (j' : Nat) {x : Int} (hx : x = j') : MidW wr a i j' (wx.setCell ⟨wr.heap.size + 1, 2, none⟩ (.int .i64 x)) := by
  subst hx
  refine ⟨h.new.setCell (p := ⟨wr.heap.size + 1, 2, none⟩) (by simp) _, (by simp [World.setCell, h.size]), ?_, ?_⟩
  · rw [Below.heap_setCell _ _ _ _ (by simp)]; exact h.ab
  · rw [blk_set h.qb]; rfl
theorem reads_nil {arcs : List ArcM} {fins inn out : List Int} (h : fins.length = 0) : ¬ Reads arcs fins inn out := by
  rintro ⟨f, hf, _⟩
  rw [List.eq_nil_of_length_eq_zero h] at hf
  cases hf
theorem reads_one {arcs : List ArcM} {fins inn out : List Int} (h : fins.length = 1) : Reads arcs fins inn out ↔ PathM arcs 0 inn out (fins.getD 0 0) := by
  obtain ⟨f, rfl⟩ := List.length_eq_one_iff.1 h
  unfold Reads
  simp
theorem step_none_i {inn out : List Int} {p : Pl} {a : ArcM} (h : 0 < a.i ∧ (p.i = inn.length ∨ inn.getD p.i.toNat 0 ≠ a.i)) : stepC inn out p a = none := by
  unfold stepC; rw [if_pos h]
theorem step_none_o {inn out : List Int} {p : Pl} {a : ArcM} (h1 : ¬ (0 < a.i ∧ (p.i = inn.length ∨ inn.getD p.i.toNat 0 ≠ a.i))) (h : 0 < a.o ∧ (p.j = out.length ∨ out.getD p.j.toNat 0 ≠ a.o)) : stepC inn out p a = none := by
  unfold stepC; rw [if_neg h1, if_pos h]
theorem step_some {inn out : List Int} {p : Pl} {a : ArcM} (h1 : ¬ (0 < a.i ∧ (p.i = inn.length ∨ inn.getD p.i.toNat 0 ≠ a.i))) (h : ¬ (0 < a.o ∧ (p.j = out.length ∨ out.getD p.j.toNat 0 ≠ a.o))) :
    stepC inn out p a = some ⟨a.t, p.i + (if 0 < a.i then 1 else 0), p.j + (if 0 < a.o then 1 else 0)⟩ := by
  unfold stepC; rw [if_neg h1, if_neg h]
set_option maxHeartbeats 4000000 in
theorem cost_any (n : Nat) (h : MachH) (arcs : List ArcM) (fins : List Int) (w : World) (hm : MachV w n h arcs fins) (I O : Option Addr) (p c q d : Nat) (inn out : List Int)
    (hi : Ints w w.heap.size I p c inn) (ho : Ints w w.heap.size O q d out) (hp : p ≤ 60) (hq : q ≤ 60) (hwi : within inn 60 = true) (hwo : within out 60 = true) :
    Calls Try.prog 8 #[machVal n h, .slice I p c, .slice O q d] w (CostPost arcs fins inn out w) := by
  obtain ⟨A, na, ca, F, nf, cf⟩ := h
  have hg := hm.good
  have hn0 := new_alloc w (.cells #[.int .i64 n, .slice A na ca, .slice F nf cf] 35)
  have hm0 := hm.new_ hn0
  show Calls Try.prog 8 #[.agg #[.int .i64 n, .slice A na ca, .slice F nf cf], .slice I p c, .slice O q d] w (CostPost arcs fins inn out w)
  have h1 := hg.n1
  have h2 := hg.n2
  have HM := Lib.hid hm
  have HG := Lib.hid hg
  have HI := Lib.hid hi
  have HO := Lib.hid ho
  have HWI := Lib.hid hwi
  have HWO := Lib.hid hwo
  have hcp := hi.2.1
  have hcq := ho.2.1
  have q1 : decide ((60 : Int) < (p : Int)) = false := by simp; omega
  have q2 : decide ((60 : Int) < (q : Int)) = false := by simp; omega
  have hmm := @run_makeMap Try.prog
  clear hm hg hi ho hwi hwo
  go_enter Try.func8, Try.ntmps8
  go_wp2_with fail
  refine (mcheck_any n ⟨A, na, ca, F, nf, cf⟩ arcs fins _ hm0).mono ?_
  rintro en w1 ⟨rfl, hw1⟩
  have hn1 := New.trans hn0 hw1
  have hbx : ∀ wr, New w1 wr → wr.cell? ⟨w.heap.size, 0, none⟩ = some (.int .i64 n) ∧ wr.cell? ⟨w.heap.size, 1, none⟩ = some (.slice A na ca) ∧ wr.cell? ⟨w.heap.size, 2, none⟩ = some (.slice F nf cf) := by
    intro wr hw
    have := New.trans hw1 hw
    refine ⟨?_, ?_, ?_⟩ <;> (rw [this.cell (by simp)]; simp [go_sem])
  have HBX := Lib.hid hbx
  obtain ⟨b0, b1, b2⟩ := hbx w1 (New.refl _)
  clear hbx
  go_wp2_with fail
  refine (spoken_any I p c inn _ ((HI.out.below' hn1 hn1.size))).mono ?_
  rw [HWI.out]
  rintro en w2 ⟨rfl, rfl⟩
  go_wp2_with fail
  refine (spoken_any O q d out _ ((HO.out.below' hn1 hn1.size))).mono ?_
  rw [HWO.out]
  rintro en w2 ⟨rfl, rfl⟩
  go_wp2_with fail
  refine (from_any n ⟨A, na, ca, F, nf, cf⟩ arcs fins _ (HM.out.new_ hn1)).mono ?_
  rintro en w2 ⟨g, vs, rfl, hfan, hw2⟩
  have hn2 := New.trans hn1 hw2
  have HFAN := Lib.hid hfan
  clear hfan
  have hmd := Lib.hid (MapI.made plK w2 3)
  have w0I : wfI 0 := wfI_of (by decide) (by decide)
  go_wp2_with (refine wpList_insert_mapI rfl _ _ _ 69 rfl law68 Try.underlying69 Try.underlying3 rfl hmd.out (by unfold maxLen; omega) plD rfl ⟨w0I, w0I, w0I⟩ 0 rfl (by decide) ?_)
  intro w3 hm3 hg3
  have hf2 : (fun y => if y = plD then some (0 : Int) else none) = fun x => if x ∈ [plD] then some 0 else none := by funext y; simp
  rw [hf2] at hm3
  clear hf2
  have hn3 : New w1 w3 := New.grown (hw2.alloc (.map #[] 0)) hg3 (fun k hk => by cases hk; exact hw2.size)
  have hfan3 : Fan w3 w1.heap.size g n vs arcs := (HFAN.out.new_ (new_alloc w2 _)).mapOther hg3 ⟨#[], 0, heap_alloc_new w2 _⟩
  have HC0 : Hid (CostW w1 g n vs w2.heap.size arcs inn out [] ([] ++ [plD]) [plD] (.slice (some ⟨w3.heap.size, 0, none⟩) 1 1) (w3.alloc (.cells #[.int .i64 0, .int .i64 0, .int .i64 0] 68))) :=
    ⟨cinv_start h1, Row.fresh (size := 3) w3 #[.int .i64 0, .int .i64 0, .int .i64 0] 1 hn3.size rfl (by unfold maxLen; omega), hm3.alloc _, hfan3.new_ (new_alloc w3 _), hn3.alloc _, hw2.size⟩
  clear hfan3 hg3 hm3
  have hU : ∃ U, U = n * ((p + 1) * (q + 1)) := ⟨_, rfl⟩
  obtain ⟨U, hU⟩ := hU
  have hUl : U ≤ 11163000 := by
    have e1 : (p + 1) * (q + 1) ≤ 61 * 61 := Nat.mul_le_mul (by omega) (by omega)
    have e2 : n * ((p + 1) * (q + 1)) ≤ 3000 * (61 * 61) := Nat.mul_le_mul h2 e1
    omega
  have HU := Lib.hid hU
  clear hU
  go_wp2
  go_loopg [12] U (fun gk v wr => ∃ (dn wk : List Pl), gk + dn.length = U ∧ CostW w1 g n vs w2.heap.size arcs inn out dn (dn ++ wk) wk v wr)
  case atStart => exact ⟨[], [plD], by simp, HC0.out⟩
  case round =>
    obtain ⟨dn, wk, hgk, hC⟩ := hrel
    cases wk with
    | nil =>
      obtain ⟨Aw, cw, rfl, _⟩ := hC.row.len
      have hend : CInv n arcs inn out dn dn := by have := hC.inv; simpa using this
      have hfr : ∀ f, (⟨f, p, q⟩ : Pl) ∈ dn ↔ PathM arcs 0 inn out f := by
        intro f
        have := cinv_end HG.out hend f
        rwa [HI.out.1, HO.out.1] at this
      have hmap : MapI plK wr 3 w2.heap.size dn.length (fun x => if x ∈ dn then some 0 else none) := by have := hC.map; simpa using this
      have HFR := Lib.hid hfr
      have HMAP := Lib.hid hmap
      obtain ⟨b0', b1', b2'⟩ := HBX.out wr hC.new
      have hnw : New w wr := New.trans hn1 hC.new
      have hnf : nf ≤ 1 := by have := HG.out.fin; have e := HM.out.finsV.1; dsimp only at e; omega
      obtain ⟨wo, rfl⟩ : ∃ wo : World, wo = wr := ⟨_, rfl⟩
      clear hC hend hfr hmap
      simp only [List.length_nil]
      go_wp2
      go_loopw [20, 21, 153] (fun cst ok i wr => cst = .int .i64 0 ∧ New wo wr ∧ ((i = .int .i64 0 ∧ ok = .bool false) ∨ (i = .int .i64 1 ∧ nf = 1 ∧ ∃ bb : Bool, ok = .bool bb ∧ Hid (bb = true ↔ (⟨fins.getD 0 0, p, q⟩ : Pl) ∈ dn)))) (fun _ _ i _ => 1 - (intOf i).toNat)
      case atStart => exact ⟨rfl, New.refl _, .inl ⟨rfl, rfl⟩⟩
      case round =>
        obtain ⟨rfl, hnr, ⟨rfl, rfl⟩ | ⟨rfl, hn1', bb, rfl, hbb⟩⟩ := hrel
        · by_cases hn0' : nf = 0
          · have hrd := Lib.hid (reads_nil (arcs := arcs) (inn := inn) (out := out) (HM.out.finsV.1.trans hn0'))
            subst hn0'
            go_wp2
            exact bodyPost_ret (v := .tuple #[.int .i64 0, .bool false, .int .i64 0]) (by simp [results, Try.results8, go_sem]) rfl ⟨false, ⟨fun h => absurd h (by decide), fun h => absurd h hrd.out⟩, rfl, New.trans hnw hnr⟩
          · have hn1' : nf = 1 := by omega
            have hnp : 0 < nf := by omega
            have HN1 := Lib.hid hn1'
            have hfv := HM.out.finsV
            obtain ⟨bf, of_, eF, hc⟩ := hfv.2.2 hnp
            dsimp only at eF
            subst eF
            have hnwr := New.trans hnw hnr
            obtain ⟨f0, f1⟩ := hc 0 hnp
            have hfb := HG.out.fins (fins.getD 0 0) (getD_mem (by rw [hfv.1]; exact hnp) _)
            simp only [Nat.zero_mul, Nat.add_zero] at f0 f1
            have f0' := hnwr.cell_ f0
            have f1' := hnwr.cell_ f1
            obtain ⟨f, hfe⟩ : ∃ f, f = fins.getD 0 0 := ⟨_, rfl⟩
            rw [← hfe] at f0' hfb
            have HFE := Lib.hid hfe
            have HMR := Lib.hid ((HMAP.out.new_ hnr).alloc (.cells #[.int .i64 f, .int .i64 0] 75))
            have hwk : plK.ok ⟨f, p, q⟩ := ⟨wfI_of hfb.1 (by simp; omega), wfI_of (by simp) (by simp; omega), wfI_of (by simp) (by simp; omega)⟩
            have HWK := Lib.hid hwk
            have hna := hnr.alloc (.cells #[.int .i64 f, .int .i64 0] 75)
            clear hc f0 f1 hfv hfe hwk hn1' hn0'
            by_cases hV : (⟨f, p, q⟩ : Pl) ∈ dn
            · have hr : Hid ((fun x => if x ∈ dn then some (0 : Int) else none) (⟨f, p, q⟩ : Pl) = some 0) := if_pos hV
              have HV : Hid (true = true ↔ (⟨fins.getD 0 0, p, q⟩ : Pl) ∈ dn) := by rw [← HFE.out]; exact ⟨fun _ => hV, fun _ => rfl⟩
              clear hV
              go_wp2_with (at_lookup; refine wpList_lookup_mapI_ok rfl _ _ 69 rfl law68 Try.underlying69 Try.underlying3 (zero3 _) rfl HMR.out ⟨f, p, q⟩ rfl HWK.out (some 0) hr ?_)
              go_roundw
              case rel => exact ⟨rfl, hna, .inr ⟨by go_num, HN1.out, true, rfl, HV⟩⟩
              case measure => simp [intOf]
            · have hr : Hid ((fun x => if x ∈ dn then some (0 : Int) else none) (⟨f, p, q⟩ : Pl) = none) := if_neg hV
              have HV : Hid (false = true ↔ (⟨fins.getD 0 0, p, q⟩ : Pl) ∈ dn) := by rw [← HFE.out]; exact ⟨fun h => absurd h (by decide), fun h => absurd h hV⟩
              clear hV
              go_wp2_with (at_lookup; refine wpList_lookup_mapI_ok rfl _ _ 69 rfl law68 Try.underlying69 Try.underlying3 (zero3 _) rfl HMR.out ⟨f, p, q⟩ rfl HWK.out none hr ?_)
              go_roundw
              case rel => exact ⟨rfl, hna, .inr ⟨by go_num, HN1.out, false, rfl, HV⟩⟩
              case measure => simp [intOf]
        · subst hn1'
          have hrd : Hid (bb = true ↔ Reads arcs fins inn out) := hbb.out.trans ((HFR.out _).trans (reads_one HM.out.finsV.1).symm)
          go_wp2
          exact bodyPost_ret (v := .tuple #[.int .i64 0, .bool bb, .int .i64 0]) (by simp [results, Try.results8, go_sem]) rfl ⟨bb, hrd.out, rfl, New.trans hnw hnr⟩
    | cons pl wk =>
      obtain ⟨Aw, cw, rfl, hcw1, hcw2, _⟩ := hC.row.len
      obtain ⟨gw, ow, rfl, _, hgw, hcell⟩ := hC.row.cell (by simp)
      have hok := hC.inv.reach pl (by simp)
      have hlen := cinv_len hC.inv
      rw [HI.out.1, HO.out.1, ← HU.out] at hlen
      obtain ⟨s, i, j⟩ := pl
      obtain ⟨⟨s1, s2⟩, ⟨i1, i2⟩, ⟨j1, j2⟩, hpath⟩ := hok
      dsimp only at s1 s2 i1 i2 j1 j2
      obtain ⟨sN, rfl⟩ := Int.eq_ofNat_of_zero_le s1
      obtain ⟨iN, rfl⟩ := Int.eq_ofNat_of_zero_le i1
      obtain ⟨jN, rfl⟩ := Int.eq_ofNat_of_zero_le j1
      rw [HI.out.1] at i2
      rw [HO.out.1] at j2
      have e0 : wr.cell? ⟨gw, ow, none⟩ = some (.int .i64 sN) := by have := hcell 0 (by simp); simpa [plCells_cons] using this
      have e1 : wr.cell? ⟨gw, ow + 1, none⟩ = some (.int .i64 iN) := by have := hcell 1 (by simp; omega); simpa [plCells_cons] using this
      have e2 : wr.cell? ⟨gw, ow + 2, none⟩ = some (.int .i64 jN) := by have := hcell 2 (by simp; omega); simpa [plCells_cons] using this
      have HC := Lib.hid hC
      have hsn : sN < n := by omega
      have hnl := Lib.hid (new_alloc wr (.cells #[.int .i64 sN, .int .i64 iN, .int .i64 jN] 68))
      clear hC hcell hpath s1 i1 j1
      simp only [List.length_cons] at hcw1
      go_upto_region 14 with fail
      obtain ⟨At, hAt⟩ : ∃ At, At = (if cw = 1 then some (⟨gw, ow, none⟩ : Addr) else some ⟨gw, ow + 3, none⟩) := ⟨_, rfl⟩
      rw [← hAt]
      have HI0 := Lib.hid (CostI.start HC.out)
      rw [← hAt] at HI0
      clear hAt e0 e1 e2
      have hrw := HC.out.fan.row sN hsn
      obtain ⟨Aa, ka, hva, hka1, hka2, _⟩ := hrw.len
      have hfc := HC.out.fan.cell hsn
      rw [hva] at hfc
      have hgl := lt_heap HC.out.fan.blk
      have hml : (rowOf arcs sN).length ≤ 20000 := Nat.le_trans (rowOf_len _ _) HG.out.len
      have HVA := Lib.hid hva
      have hs0 : (0 : Int) ≤ (sN : Int) := by omega
      have hwo := HC.out.new.size
      obtain ⟨m, hm⟩ : ∃ m, m = (rowOf arcs sN).length := ⟨_, rfl⟩
      rw [← hm] at hfc hka1 hml
      have HMM := Lib.hid hm
      obtain ⟨wo, rfl⟩ : ∃ wo : World, wo = wr := ⟨_, rfl⟩
      clear hrw hva hm
      go_wp2
      go_loopw [12, 68] (fun v k wr => ∃ kN : Nat, k = .int .i64 kN ∧ kN ≤ m ∧ CostI w1 g n vs w2.heap.size arcs inn out dn ⟨sN, iN, jN⟩ wo.heap.size kN v wr) (fun _ k _ => m - (intOf k).toNat)
      case atStart => exact ⟨0, rfl, Nat.zero_le _, HI0.out⟩
      case round =>
        obtain ⟨kN, rfl, hkm, wk', hC', hcl, hown, hblk⟩ := hrel
        have HC' := Lib.hid hC'
        have HCL := Lib.hid hcl
        have HOWN := Lib.hid hown
        have HBLK := Lib.hid hblk
        clear hC' hcl hown
        by_cases hkl : kN < m
        · have hrow := HC'.out.fan.row sN hsn
          rw [HVA.out] at hrow
          obtain ⟨A', c', eA, hav⟩ := Row.arcsV hrow
          injection eA with eA _ eC
          subst eA eC
          obtain ⟨ba, oa, rfl, hc⟩ := hav.2.2 (by rw [← HMM.out]; omega)
          have hcj := hc kN (by rw [← HMM.out]; exact hkl)
          have hkl' : kN < (rowOf arcs (⟨sN, iN, jN⟩ : Pl).s.toNat).length := by show kN < (rowOf arcs sN).length; rw [← HMM.out]; exact hkl
          have hmem := getD_mem (d := arcD) (show kN < (rowOf arcs sN).length by rw [← HMM.out]; exact hkl)
          obtain ⟨hma, hmf⟩ := mem_rowOf.1 hmem
          have hbd := HG.out.arc _ hma
          obtain ⟨a, hae⟩ : ∃ a, a = (rowOf arcs sN).getD kN arcD := ⟨_, rfl⟩
          rw [← hae] at hcj hmem hma hmf hbd
          have HAE := Lib.hid hae
          obtain ⟨f, t, ai, ao⟩ := a
          obtain ⟨c0, c1, c2, c3, c4⟩ := hcj
          dsimp only at c0 c1 c2 c3 c4 hmf hbd
          obtain ⟨⟨f1, f2⟩, ⟨t1, t2⟩, ⟨ai1, ai2⟩, ⟨ao1, ao2⟩⟩ := hbd
          have hlt := lt_heap hblk
          have p0 : wr.cell? ⟨wo.heap.size, 0, none⟩ = some (.int .i64 sN) := by simp [World.cell?, hblk]
          have p1 : wr.cell? ⟨wo.heap.size, 1, none⟩ = some (.int .i64 iN) := by simp [World.cell?, hblk]
          have p2 : wr.cell? ⟨wo.heap.size, 2, none⟩ = some (.int .i64 jN) := by simp [World.cell?, hblk]
          have hnw : New w wr := New.trans hn1 HC'.out.new
          have hix := HI.out.below' hnw hnw.size
          have hox := HO.out.below' hnw hnw.size
          have HIX := Lib.hid hix
          have HOX := Lib.hid hox
          subst hmf
          have i2' : iN ≤ p := by omega
          have j2' : jN ≤ q := by omega
          have hpi : inn.length = p := HI.out.1
          have hpj : out.length = q := HO.out.1
          have HPI := Lib.hid hpi
          have HPJ := Lib.hid hpj
          clear hc hav hrow hae hmem hma hix hox hblk hpi hpj
          go_upto_if 81 with fail
          go_cut [] (fun wx => ∃ k1 : Nat, k1 ≤ p ∧ ¬ (0 < ai ∧ (iN = p ∨ inn.getD iN 0 ≠ ai)) ∧ k1 = iN + (if 0 < ai then 1 else 0) ∧ MidW wr ⟨sN, t, ai, ao⟩ k1 jN wx)
          case first =>
            by_cases h0 : 0 < ai
            · by_cases hlen : iN = p
              · subst hlen
                have HST : Hid (∀ nq, CostI w1 g n vs w2.heap.size arcs inn out dn ⟨sN, iN, jN⟩ wo.heap.size (kN + 1) u12 (((wr.alloc (.cells #[.int .i64 sN, .int .i64 t, .int .i64 ai, .int .i64 ao, .int .i64 0] 72)).alloc (.cells #[.int .i64 t, .int .i64 iN, .int .i64 jN] 68)).drewN nq)) := fun nq =>
                  CostI.same HC'.out HCL.out HOWN.out HBLK.out ((((New.refl wr).alloc _).alloc _).drewN nq) hkl' (fun q hq => by
                    have hq' : stepC inn out ⟨sN, iN, jN⟩ ((rowOf arcs sN).getD kN arcD) = some q := hq
                    rw [← HAE.out, step_none_i ⟨h0, .inl (by have := HPI.out; show (iN : Int) = (inn.length : Int); omega)⟩] at hq'
                    cases hq')
                go_wp2
                go_quiet (fail)
                go_wp2
                go_roundw
                case rel => exact ⟨kN + 1, by go_num, by omega, HST.out _⟩
                case measure => simp [intOf]; omega
              · by_cases hmt : inn.getD iN 0 = ai
                · obtain ⟨bI, oI, rfl, hbI, hcI⟩ := HIX.out.2.2 (by omega)
                  have hcc := hcI iN (by omega)
                  rw [hmt] at hcc
                  have g1 : ((iN : Int) == (p : Int)) = false := by simp; omega
                  have g2 : (ai != ai) = false := by simp
                  have g3 : ¬ iN = p := hlen
                  have HH := Lib.hid hmt
                  clear hmt
                  go_wp2
                  go_quiet (fail)
                  go_wp2
                  go_meet
                  exact ⟨iN + 1, by omega, fun h => h.2.elim hlen (fun h => h HH.out), by rw [if_pos h0], ((MidW.mk_ wr ⟨sN, t, ai, ao⟩ iN jN rfl rfl).drewN nq).seti (iN + 1) (by simp)⟩
                · obtain ⟨bI, oI, rfl, hbI, hcI⟩ := HIX.out.2.2 (by omega)
                  have hcc := hcI iN (by omega)
                  have g1 : ((iN : Int) == (p : Int)) = false := by simp; omega
                  have g3 : ¬ iN = p := hlen
                  obtain ⟨xI, hxI⟩ : ∃ xI, xI = inn.getD iN 0 := ⟨_, rfl⟩
                  rw [← hxI] at hcc hmt
                  have HXI := Lib.hid hxI
                  have g2 : (xI != ai) = true := by simp; exact hmt
                  have HMT := Lib.hid hmt
                  clear hmt hxI
                  have HST : Hid (∀ nq, CostI w1 g n vs w2.heap.size arcs inn out dn ⟨sN, iN, jN⟩ wo.heap.size (kN + 1) u12 (((wr.alloc (.cells #[.int .i64 sN, .int .i64 t, .int .i64 ai, .int .i64 ao, .int .i64 0] 72)).alloc (.cells #[.int .i64 t, .int .i64 iN, .int .i64 jN] 68)).drewN nq)) := fun nq =>
                    CostI.same HC'.out HCL.out HOWN.out HBLK.out ((((New.refl wr).alloc _).alloc _).drewN nq) hkl' (fun q hq => by
                      have hq' : stepC inn out ⟨sN, iN, jN⟩ ((rowOf arcs sN).getD kN arcD) = some q := hq
                      rw [← HAE.out, step_none_i ⟨h0, .inr (by show inn.getD iN 0 ≠ ai; rw [← HXI.out]; exact HMT.out)⟩] at hq'
                      cases hq')
                  go_wp2
                  go_quiet (fail)
                  go_wp2
                  go_roundw
                  case rel => exact ⟨kN + 1, by go_num, by omega, HST.out _⟩
                  case measure => simp [intOf]; omega
            · have g0 : ai = 0 := by omega
              subst g0
              go_wp2
              go_meet
              exact ⟨iN, i2', fun h => absurd h.1 (by decide), by rw [if_neg (by decide)]; rfl, MidW.mk_ wr ⟨sN, t, 0, ao⟩ iN jN rfl rfl⟩
          case rest =>
            obtain ⟨wd, rfl⟩ : ∃ wd : World, wd = wc := ⟨_, rfl⟩
            obtain ⟨k1, hk1, hni, hk1e, hmid⟩ := hcut
            have HMID := Lib.hid hmid
            have HNI := Lib.hid hni
            have HK1E := Lib.hid hk1e
            have y0 : ∀ r, wd.cell? ⟨wr.heap.size, r, none⟩ = (#[.int .i64 sN, .int .i64 t, .int .i64 ai, .int .i64 ao, .int .i64 0] : Array Value)[r]? := fun r => by simp [World.cell?, hmid.ab]
            have y2 := y0 2
            have y3 := y0 3
            have y4 := y0 4
            have z0 : ∀ r, wd.cell? ⟨wr.heap.size + 1, r, none⟩ = (#[.int .i64 t, .int .i64 k1, .int .i64 jN] : Array Value)[r]? := fun r => by simp [World.cell?, hmid.qb]
            have z2 := z0 2
            have z2f : wd.frozen? ⟨wr.heap.size + 1, 2, none⟩ = false := by simp [World.frozen?, hmid.qb]
            have p1' := hmid.new.cell_ p1
            have p2' := hmid.new.cell_ p2
            simp at y2 y3 y4 z2
            clear y0 z0 hmid hni hk1e
            go_upto_if 103 with fail
            go_cut [] (fun wx => ∃ k2 : Nat, k2 ≤ q ∧ ¬ (0 < ao ∧ (jN = q ∨ out.getD jN 0 ≠ ao)) ∧ k2 = jN + (if 0 < ao then 1 else 0) ∧ MidW wr ⟨sN, t, ai, ao⟩ k1 k2 wx)
            case first =>
              by_cases h0 : 0 < ao
              · by_cases hlen : jN = q
                · subst hlen
                  have HST : Hid (∀ nq, CostI w1 g n vs w2.heap.size arcs inn out dn ⟨sN, iN, jN⟩ wo.heap.size (kN + 1) u12 (wd.drewN nq)) := fun nq =>
                    CostI.same HC'.out HCL.out HOWN.out HBLK.out (HMID.out.new.drewN nq) hkl' (fun x hx => by
                      have hx' : stepC inn out ⟨sN, iN, jN⟩ ((rowOf arcs sN).getD kN arcD) = some x := hx
                      rw [← HAE.out, step_none_o (fun h => HNI.out ⟨h.1, h.2.elim (fun e => .inl (by have := HPI.out; simp at e; omega)) .inr⟩) ⟨h0, .inl (by have := HPJ.out; show (jN : Int) = (out.length : Int); omega)⟩] at hx'
                      cases hx')
                  go_wp2
                  go_quiet (fail)
                  go_wp2
                  go_roundw
                  case rel => exact ⟨kN + 1, by go_num, by omega, HST.out _⟩
                  case measure => simp [intOf]; omega
                · by_cases hmt : out.getD jN 0 = ao
                  · obtain ⟨bO, oO, rfl, hbO, hcO⟩ := HOX.out.2.2 (by omega)
                    have hcc := HMID.out.new.cell_ (hcO jN (by omega))
                    rw [hmt] at hcc
                    have g1 : ((jN : Int) == (q : Int)) = false := by simp; omega
                    have g2 : (ao != ao) = false := by simp
                    have g3 : ¬ jN = q := hlen
                    have HH := Lib.hid hmt
                    clear hmt
                    go_wp2
                    go_quiet (fail)
                    go_wp2
                    go_meet
                    exact ⟨jN + 1, by omega, fun h => h.2.elim hlen (fun h => h HH.out), by rw [if_pos h0], (HMID.out.drewN nq).setj (jN + 1) (by simp)⟩
                  · obtain ⟨bO, oO, rfl, hbO, hcO⟩ := HOX.out.2.2 (by omega)
                    have hcc := HMID.out.new.cell_ (hcO jN (by omega))
                    have g1 : ((jN : Int) == (q : Int)) = false := by simp; omega
                    have g3 : ¬ jN = q := hlen
                    obtain ⟨xO, hxO⟩ : ∃ xO, xO = out.getD jN 0 := ⟨_, rfl⟩
                    rw [← hxO] at hcc hmt
                    have HXO := Lib.hid hxO
                    have g2 : (xO != ao) = true := by simp; exact hmt
                    have HMT := Lib.hid hmt
                    clear hmt hxO
                    have HST : Hid (∀ nq, CostI w1 g n vs w2.heap.size arcs inn out dn ⟨sN, iN, jN⟩ wo.heap.size (kN + 1) u12 (wd.drewN nq)) := fun nq =>
                      CostI.same HC'.out HCL.out HOWN.out HBLK.out (HMID.out.new.drewN nq) hkl' (fun x hx => by
                        have hx' : stepC inn out ⟨sN, iN, jN⟩ ((rowOf arcs sN).getD kN arcD) = some x := hx
                        rw [← HAE.out, step_none_o (fun h => HNI.out ⟨h.1, h.2.elim (fun e => .inl (by have := HPI.out; simp at e; omega)) .inr⟩) ⟨h0, .inr (by show out.getD jN 0 ≠ ao; rw [← HXO.out]; exact HMT.out)⟩] at hx'
                        cases hx')
                    go_wp2
                    go_quiet (fail)
                    go_wp2
                    go_roundw
                    case rel => exact ⟨kN + 1, by go_num, by omega, HST.out _⟩
                    case measure => simp [intOf]; omega
              · have g0 : ao = 0 := by omega
                subst g0
                go_wp2
                go_meet
                exact ⟨jN, j2', fun h => absurd h.1 (by decide), by rw [if_neg (by decide)]; rfl, HMID.out⟩
            case rest =>
              obtain ⟨k2, hk2, hno, hk2e, hmid⟩ := hcut
              clear y2 y3 y4 z2 z2f p1' p2'
              have HMD := Lib.hid hmid
              have y4 : wc.cell? ⟨wr.heap.size, 4, none⟩ = some (.int .i64 0) := by simp [World.cell?, hmid.ab]
              have x0 := hmid.new.cell_ p0
              have x1 := hmid.new.cell_ p1
              have x2 := hmid.new.cell_ p2
              have z0 : ∀ r, wc.cell? ⟨wr.heap.size + 1, r, none⟩ = (#[.int .i64 t, .int .i64 k1, .int .i64 k2] : Array Value)[r]? := fun r => by simp [World.cell?, hmid.qb]
              have z00 := z0 0
              have z01 := z0 1
              have z02 := z0 2
              simp at z00 z01 z02
              have hst : stepC inn out ⟨sN, iN, jN⟩ ((rowOf arcs sN).getD kN arcD) = some ⟨t, k1, k2⟩ := by
                rw [← HAE.out, step_some (fun h => HNI.out ⟨h.1, h.2.elim (fun e => .inl (by have := HPI.out; simp at e; omega)) .inr⟩) (fun h => hno ⟨h.1, h.2.elim (fun e => .inl (by have := HPJ.out; simp at e; omega)) .inr⟩)]
                rw [HK1E.out, hk2e]
                simp only [Option.some.injEq, Pl.mk.injEq, true_and]
                constructor
                · split <;> simp
                · split <;> simp
              have HST := Lib.hid hst
              have hC2 := HC'.out.new_ hmid.new
              have hlk : ∀ k, (Instr.lookup 69 (.map (some w2.heap.size)) (.agg #[.int .i64 sN, .int .i64 iN, .int .i64 jN]) false).run Try.prog (wc.drewN k) = .ok (.int .i64 0) (wc.drewN k) := by
                intro k
                have hh := (hC2.map.drewN k).run (t := 69) law68 Try.underlying69 Try.underlying3 (zero3 _) ⟨sN, iN, jN⟩ ⟨wfI_of (by simp) (by simp; omega), wfI_of (by simp) (by simp; omega), wfI_of (by simp) (by simp; omega)⟩
                rw [if_pos (by simp)] at hh
                exact hh
              have HC2 := Lib.hid hC2
              have wq : plK.ok ⟨t, k1, k2⟩ := ⟨wfI_of t1 (by simp; omega), wfI_of (by simp) (by simp; omega), wfI_of (by simp) (by simp; omega)⟩
              have HWQ := Lib.hid wq
              clear z0 hst hno hk2e hmid hC2 wq
              by_cases hV : (⟨t, k1, k2⟩ : Pl) ∈ (dn ++ [⟨sN, iN, jN⟩]) ++ wk'
              · have HV := Lib.hid hV
                have hr : Hid ((fun x => if x ∈ (dn ++ [⟨sN, iN, jN⟩]) ++ wk' then some (0 : Int) else none) (⟨t, k1, k2⟩ : Pl) = some 0) := if_pos hV
                clear hV
                have HRS : Hid (∀ nq, CostI w1 g n vs w2.heap.size arcs inn out dn ⟨sN, iN, jN⟩ wo.heap.size (kN + 1) u12 (wc.drewN nq)) := fun nq =>
                  CostI.same HC'.out HCL.out HOWN.out HBLK.out (HMD.out.new.drewN nq) hkl' (fun x hx => by
                    have hx' : stepC inn out ⟨sN, iN, jN⟩ ((rowOf arcs sN).getD kN arcD) = some x := hx
                    rw [HST.out] at hx'
                    injection hx' with hx'
                    subst hx'
                    exact HV.out)
                go_wp2
                go_quiet (fail)
                go_wp2_with (at_lookup; refine wpList_lookup_mapI_ok rfl _ _ 69 rfl law68 Try.underlying69 Try.underlying3 (zero3 _) rfl (HC2.out.map.drewN _) ⟨t, k1, k2⟩ rfl HWQ.out (some 0) hr ?_)
                go_roundw
                case rel => exact ⟨kN + 1, by go_num, by omega, HRS.out _⟩
                case measure => simp [intOf]; omega
              · have HV := Lib.hid hV
                have hr : Hid ((fun x => if x ∈ (dn ++ [⟨sN, iN, jN⟩]) ++ wk' then some (0 : Int) else none) (⟨t, k1, k2⟩ : Pl) = none) := if_neg hV
                clear hV
                obtain ⟨i8, hi8, hz80, hz81, hz82⟩ := info_parts info68
                have hvl : ((dn ++ [(⟨sN, iN, jN⟩ : Pl)]) ++ wk').length < maxLen := by
                  have h0 := cinv_len HC'.out.inv
                  rw [HPI.out, HPJ.out, ← HU.out] at h0
                  unfold maxLen
                  omega
                have HVL := Lib.hid hvl
                clear hvl
                go_wp2
                go_quiet (fail)
                go_wp2_with (first
                  | (at_lookup; refine wpList_lookup_mapI_ok rfl _ _ 69 rfl law68 Try.underlying69 Try.underlying3 (zero3 _) rfl (HC2.out.map.drewN _) ⟨t, k1, k2⟩ rfl HWQ.out none hr ?_)
                  | (at_mapUpdate; refine wpList_update_mapI rfl _ _ _ 69 rfl law68 Try.underlying69 Try.underlying3 rfl (HC2.out.map.drewN _) HVL.out ⟨t, k1, k2⟩ rfl HWQ.out 0 rfl (by decide) ?_)
                  | fail)
                intro w5 hm5 hg5
                have hdw : New wc (wc.drewN nq) := (New.refl _).drewN nq
                have hCq := HC2.out.new_ hdw
                have hm5' : MapI plK w5 3 w2.heap.size (((dn ++ [(⟨sN, iN, jN⟩ : Pl)]) ++ wk').length + 1) (fun y => if y = ⟨t, k1, k2⟩ then some 0 else if y ∈ (dn ++ [(⟨sN, iN, jN⟩ : Pl)]) ++ wk' then some 0 else none) := by simpa using hm5
                obtain ⟨r5, m5, f5, n5⟩ := hCq.mapped hm5' hg5
                have hq5 : ∀ r, w5.cell? ⟨wr.heap.size + 1, r, none⟩ = (#[.int .i64 t, .int .i64 k1, .int .i64 k2] : Array Value)[r]? := by
                  intro r
                  have hb : w5.heap[wr.heap.size + 1]? = some (.cells #[.int .i64 t, .int .i64 k1, .int .i64 k2] 68 (0, 0)) := by
                    rw [hg5.block (wr.heap.size + 1) (lt_heap HMD.out.qb) (fun e => by
                      injection e with e
                      obtain ⟨es, cl, h0⟩ := hCq.map.isMap
                      rw [← e] at h0
                      have := HMD.out.qb
                      rw [show (wc.drewN nq).heap = wc.heap from rfl] at h0
                      rw [this] at h0; cases h0)]
                    exact HMD.out.qb
                  simp [World.cell?, hb]
                have q50 := hq5 0
                have q51 := hq5 1
                have q52 := hq5 2
                simp at q50 q51 q52
                have hbl5 : w5.heap[wo.heap.size]? = some (.cells #[.int .i64 sN, .int .i64 iN, .int .i64 jN] 68 (0, 0)) := by
                  rw [hg5.block wo.heap.size (by have := HMD.out.size; show wo.heap.size < wc.heap.size; omega) (fun e => by
                    injection e with e
                    obtain ⟨es, cl, h0⟩ := hCq.map.isMap
                    rw [← e] at h0
                    have := (HMD.out.new.block wo.heap.size hlt).trans HBLK.out
                    rw [show (wc.drewN nq).heap = wc.heap from rfl, this] at h0
                    cases h0)]
                  exact (HMD.out.new.block wo.heap.size hlt).trans HBLK.out
                have R5 := Lib.hid r5
                have M5 := Lib.hid m5
                have F5 := Lib.hid f5
                have N5 := Lib.hid n5
                have B5 := Lib.hid hbl5
                have hqs : wr.heap.size + 1 < w5.heap.size := cell_lt (a := ⟨wr.heap.size + 1, 0, none⟩) q50
                have h5s := n5.size
                have hwl : wk'.length + 1 ≤ 11163001 := by
                  have h0 := cinv_len HC'.out.inv
                  rw [HPI.out, HPJ.out, ← HU.out] at h0
                  simp at h0
                  omega
                clear hm5 hm5' hg5 hCq r5 m5 f5 n5 hbl5 hq5 hdw hlk x0 x1 x2 z00 z01 z02 y4
                go_wp2_with (at_builtin; refine wpList_append_row _ rfl _ _ 70 rfl w1.heap.size 68 i8 _ 3 24 Try.underlying70 hi8 hz80 hz81 hz82 rfl (by decide) _ _ _ rfl (R5.out.alloc _) (some ⟨w5.heap.size, 0, none⟩) 1 1 [.int .i64 t, .int .i64 k1, .int .i64 k2] rfl (Src.lit w5 #[.int .i64 t, .int .i64 k1, .int .i64 k2] 68 1 (by simp) (by simp [Value.oneCell'])) ?c1 ?c2 ?c3 ?_)
                case c1 => unfold maxLen; omega
                case c2 => omega
                case c3 => simp; omega
                intro v6 w6 hr6 hg6 hat6 _
                have HRS := Lib.hid (CostI.push (q := ⟨t, k1, k2⟩) HG.out HC'.out.inv R5.out M5.out F5.out N5.out hw2.size HCL.out HOWN.out B5.out hkl' HST.out HV.out hs0 _ hr6 hg6 (by rw [World.size_alloc]; exact hat6))
                clear hr6 hg6 hat6
                go_wp2
                go_roundw
                case rel => exact ⟨kN + 1, by go_num, by omega, HRS.out⟩
                case measure => simp [intOf]; omega
        · have hke : m ≤ kN := by omega
          have hdone := CostI.done (k := kN) ⟨wk', HC'.out, HCL.out, HOWN.out, HBLK.out⟩ (by show (rowOf arcs sN).length ≤ kN; rw [← HMM.out]; exact hke) hs0
          have HD := Lib.hid hdone
          clear hdone hke
          go_wp2
          go_roundg (gk - 1)
          case measure => simp at hlen; omega
          case rel =>
            obtain ⟨wk2, h2⟩ := HD.out
            exact ⟨dn ++ [⟨sN, iN, jN⟩], wk2, by simp at hlen ⊢; omega, h2⟩
end Go.Proofs.Ytglmlbmjppblbaa
