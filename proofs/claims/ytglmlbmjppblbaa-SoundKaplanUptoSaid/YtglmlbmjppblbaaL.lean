/- The netter: rests. -/
import Derived.Test.YtglmlbmjppblbaaK
namespace Go.Proofs.Ytglmlbmjppblbaa
open Go.RowKit Go.Kap
set_option maxRecDepth 100000

/-- How much is read, and what is written, below B. -/
def StepPostB (B : Nat) (c : ChgM) (out inn : List Int) (w : World) (en : Ending) (w' : World) : Prop :=
  ∃ A n k, en = .returned (.tuple #[.int .i64 (stepN c out inn), .slice A n k]) ∧ Ints w B A n k (stepO c out inn) ∧ New w w'

theorem step_anyB (B : Nat) (k : Int) (H : ChgH) (c : ChgM) (O I : Option Addr) (m d p e : Nat) (out inn : List Int) (w : World) (hBB : B ≤ w.heap.size) (h : Chg w B H c) (ho : Ints w w.heap.size O m d out) (hi : Ints w B I p e inn) (hp : 0 < p) :
    Calls Try.prog 21 #[.agg #[.int .i64 k, .slice H.a1 H.n1 H.c1, .slice H.a2 H.n2 H.c2, .slice H.a3 H.n3 H.c3, .slice H.a4 H.n4 H.c4], .slice O m d, .slice I p e] w (StepPostB B c out inn w) := by
  have h' := (h.more hBB).new_ (new_alloc w (.cells #[.int .i64 k, .slice H.a1 H.n1 H.c1, .slice H.a2 H.n2 H.c2, .slice H.a3 H.n3 H.c3, .slice H.a4 H.n4 H.c4] 25))
  have ho' := ho.new_ (new_alloc w (.cells #[.int .i64 k, .slice H.a1 H.n1 H.c1, .slice H.a2 H.n2 H.c2, .slice H.a3 H.n3 H.c3, .slice H.a4 H.n4 H.c4] 25))
  have hi' := (hi.more hBB).new_ (new_alloc w (.cells #[.int .i64 k, .slice H.a1 H.n1 H.c1, .slice H.a2 H.n2 H.c2, .slice H.a3 H.n3 H.c3, .slice H.a4 H.n4 H.c4] 25))
  have hr1 := hi.take (k := 1) (by omega)
  have hfl := h.frm.1
  have hcap := hi.2.1
  have HFL := Lib.hid hfl
  clear hfl
  cases ht : turnsM c out inn
  · have HT := Lib.hid ht
    clear ht
    go_enter Try.func21, Try.ntmps21
    go_wp2_with fail
    refine (turns_any k H c O I m d p e out inn _ h' ho' hi').mono ?_
    rw [HT.out]
    rintro en w' ⟨rfl, hnew⟩
    have hnew' := New.trans (new_alloc w _) hnew
    go_wp2
    go_quiet (fail)
    go_wp2
    go_ret2
    refine ⟨I, 1, e, ?_, ?_, hnew'.drewN _⟩
    · show Ending.returned (.tuple #[.int .i64 1, .slice I 1 e]) = _
      simp [stepN, HT.out]
    · unfold stepO; rw [HT.out]; exact hr1
  · have HT := Lib.hid ht
    clear ht
    go_enter Try.func21, Try.ntmps21
    go_wp2_with fail
    refine (turns_any k H c O I m d p e out inn _ h' ho' hi').mono ?_
    rw [HT.out]
    rintro en w' ⟨rfl, hnew⟩
    have hnew' := New.trans (new_alloc w _) hnew
    have hc1 := hnew.cell (p := ⟨w.heap.size, 1, none⟩) (by simp)
    have hc2 := hnew.cell (p := ⟨w.heap.size, 2, none⟩) (by simp)
    simp [go_sem] at hc1 hc2
    go_wp2
    go_quiet (fail)
    go_wp2
    go_ret2
    refine ⟨H.a2, H.n2, H.c2, ?_, ?_, hnew'.drewN _⟩
    · show Ending.returned (.tuple #[.int .i64 (H.n1 : Int), .slice H.a2 H.n2 H.c2]) = _
      unfold stepN; rw [HT.out, if_pos rfl, HFL.out]
    · unfold stepO; rw [HT.out]; exact h.to

def restF (c : ChgM) : Nat → List Int → List Int → List Int
  | 0, _, _ => []
  | f + 1, out, inn => if inn = [] then [] else stepO c out inn ++ restF c f (out ++ stepO c out inn) (inn.drop (stepN c out inn))
def restM (c : ChgM) (out inn : List Int) : List Int := restF c inn.length out inn
theorem restF_done (c : ChgM) : ∀ (f g : Nat) (out inn : List Int), 0 < c.frm.length → inn.length ≤ f → inn.length ≤ g → restF c f out inn = restF c g out inn := by
  intro f
  induction f with
  | zero =>
    intro g out inn _ h _
    have : inn = [] := List.eq_nil_of_length_eq_zero (by omega)
    subst this
    cases g <;> simp [restF]
  | succ f ih =>
    intro g out inn h0 hf hg
    by_cases hn : inn = []
    · subst hn
      cases g <;> simp [restF]
    · cases g with
      | zero => exact absurd (List.eq_nil_of_length_eq_zero (by omega)) hn
      | succ g =>
        simp only [restF, if_neg hn]
        have hp := stepN_pos c out inn h0
        rw [ih g _ _ h0 (by rw [List.length_drop]; omega) (by rw [List.length_drop]; omega)]
theorem appF_rest (c : ChgM) : ∀ (f : Nat) (out inn : List Int), appF c f out inn = out ++ restF c f out inn := by
  intro f
  induction f with
  | zero => intro out inn; simp [appF, restF]
  | succ f ih =>
    intro out inn
    by_cases hn : inn = []
    · simp [appF, restF, hn]
    · simp only [appF, restF, if_neg hn]
      rw [ih, List.append_assoc]

section
variable {w w' : World} {B0 p : Nat} {k : Int} {H : ChgH} {va vf vs : Value} {mb : Nat} {cs : List Value} {s : NS}
set_option maxHeartbeats 1000000 in
/-- 'rest'. -/
theorem rest_any (c : ChgM) (O I : Option Addr) (m d q e : Nat) (out inn : List Int) (h : NetW w B0 p k H va vf vs mb cs s) (hc : Chg w B0 H c) (ho : Ints w w.heap.size O m d out) (hi : Ints w w.heap.size I q e inn) (hf : 0 < c.frm.length) (ht : c.to.length ≤ 2) (hm : m ≤ 100000) (hq : q ≤ 100000) :
    Calls Try.prog 20 #[.pointer (some ⟨p, 0, none⟩), .slice O m d, .slice I q e] w (RowPost w w.heap.size 3 1 (restM c out inn).length ((restM c out inn).map (.int .i64))) := by
  obtain ⟨i0, hi0, hz0, hz1, hz2⟩ := info_parts info3
  have HL := Lib.hid hi.1
  have HOL := Lib.hid ho.1
  have hfl := Lib.hid hf
  clear hf
  have HA : Hid (restF c inn.length out inn = restM c out inn) := rfl
  have c0 := h.cell 0
  have c1 := h.cell 1
  have c2 := h.cell 2
  have c3 := h.cell 3
  have c4 := h.cell 4
  simp at c0 c1 c2 c3 c4
  have hB := h.size
  have hpl := lt_heap h.blk
  clear h
  go_enter Try.func20, Try.ntmps20
  go_wp2_with fail
  refine (clone_any O m d out _ ho (by omega)).mono ?_
  rintro en w1 ⟨v1, rfl, hr1, hn1⟩
  have hdl0 : out.length = m := HOL.out
  go_wp2
  go_loopw [1, 2, 7] (fun vo t vl wr => ∃ (dn rs ls : List Int) (A' : Option Addr) (q' e' : Nat), t = .slice A' q' e' ∧ q' ≤ q ∧ Ints wr w.heap.size A' q' e' rs ∧ Row wr w.heap.size 3 1 vo dn.length (dn.map (.int .i64)) ∧ Row wr w.heap.size 3 1 vl ls.length (ls.map (.int .i64)) ∧
      (vl.ownBlock = none ∨ vl.ownBlock ≠ vo.ownBlock) ∧ dn.length + 2 * q' ≤ m + 2 * q ∧ ls.length + 2 * q' ≤ 2 * q ∧ ls ++ restF c rs.length dn rs = restM c out inn ∧ New w wr)
    (fun _ t _ _ => match t with | .slice _ n _ => n | _ => 0)
  case atStart => exact ⟨out, inn, [], I, q, e, rfl, Nat.le_refl _, hi.below hn1, by rw [hdl0]; exact hr1, Row.nil_ _ _ _ _, .inl rfl, by omega, by simp, HA.out, hn1⟩
  case round =>
    obtain ⟨dn, rs, ls, A', q', e', rfl, hpp, hir, hro, hrl, hown, hdl, hll, hap, hnw⟩ := hrel
    have HAP := Lib.hid hap
    have HOWN := Lib.hid hown
    clear hap hown
    have HRL := Lib.hid hir.1
    have hsz := hnw.size
    obtain ⟨Ao, co, rfl, hio⟩ := Row.ints hro (by omega)
    obtain ⟨Al, cl, rfl, hil⟩ := Row.ints hrl (by omega)
    by_cases hp0 : 0 < q'
    · have d0 := hnw.cell_ c0
      have d1 := hnw.cell_ c1
      have d2 := hnw.cell_ c2
      have d3 := hnw.cell_ c3
      have d4 := hnw.cell_ c4
      have hcr : Chg wr w.heap.size H c := (hc.below (hnw.mono hB)).more hB
      go_wp2_with fail
      refine (step_anyB w.heap.size k H c Ao A' dn.length co q' e' dn rs _ hsz hcr hio hir hp0).mono ?_
      rintro en w' ⟨A2, n2, k2, rfl, hres, hnew⟩
      have hne : rs ≠ [] := fun e => by have := HRL.out; rw [e] at this; simp at this; omega
      have hsn : stepN c dn rs ≤ q' := by have := stepN_le c dn rs hne; rw [HRL.out] at this; exact this
      have hsp := stepN_pos c dn rs hfl.out
      have ho2 := stepO_len c dn rs ht
      have HO2 := Lib.hid hres.1
      have hn22 : n2 ≤ 2 := by rw [hres.1] at ho2; exact ho2
      have HAP' : Hid ((ls ++ stepO c dn rs) ++ restF c (rs.drop (stepN c dn rs)).length (dn ++ stepO c dn rs) (rs.drop (stepN c dn rs)) = restM c out inn) := by
        unfold Hid
        rw [← HAP.out, List.append_assoc]
        have hr : rs.length = (rs.length - 1) + 1 := by have := HRL.out; omega
        rw [hr]
        simp only [restF, if_neg hne]
        rw [restF_done c _ (rs.length - 1) _ _ hfl.out (Nat.le_refl _) (by rw [List.length_drop]; omega)]
      have hresB := hres.below (hnew.mono hsz)
      have hid := (hir.below (hnew.mono hsz)).drop hsn
      have hro' := hro.new_ hnew
      have hrl' := hrl.new_ hnew
      have hsz' := hnew.size
      generalize hsN : stepN c dn rs = sN at *
      have HSN := Lib.hid hsN
      clear hsN hne ho2 d0 d1 d2 d3 d4 hcr hio hil hres
      go_wp2_with (at_builtin; refine wpList_append_row _ rfl _ _ 22 rfl w.heap.size 3 i0 (.int .i64 0) 1 8 Try.underlying22 hi0 hz0 hz1 hz2 rfl (by decide) _ _ _ rfl hrl' A2 n2 k2 _ rfl hresB.src ?c1 ?c2 ?c3 ?_)
      case c1 => unfold maxLen; omega
      case c2 => omega
      case c3 => omega
      intro vl2 w2 hrl2 hg2 hat2 _
      have hbl2 : Below w.heap.size wr w2 := (hnew.mono hsz).grown hg2 (by omega) (fun g hg => (hrl.lt g hg).1)
      have hro2 := hro'.kept hg2 (by
        rcases HOWN.out with h0 | h0
        · rw [h0]
          cases hob : (Value.slice Ao dn.length co).ownBlock with
          | none => exact .inl rfl
          | some _ => exact .inr (by simp)
        · exact .inr (fun e => h0 e.symm))
      have hsz2 := hbl2.size
      have hres2 := hresB.below ((Below.refl w.heap.size w').grown hg2 (by omega) (fun g hg => (hrl.lt g hg).1))
      have hne2 : vl2.ownBlock = none ∨ vl2.ownBlock ≠ (Value.slice Ao dn.length co).ownBlock := by
        rcases hat2 with h0 | h0
        · rw [h0]; exact HOWN.out
        · rw [h0]; exact .inr (fun e => by have := (hro'.lt _ e.symm).2; omega)
      have HNE := Lib.hid hne2
      obtain ⟨Al2, cl2, rfl, _⟩ := Row.ints (xs := ls ++ stepO c dn rs) (by simpa using hrl2) (by omega)
      clear hne2 hat2 hg2
      go_wp2_with (at_builtin; refine wpList_append_row _ rfl _ _ 22 rfl w.heap.size 3 i0 (.int .i64 0) 1 8 Try.underlying22 hi0 hz0 hz1 hz2 rfl (by decide) _ _ _ rfl hro2 A2 n2 k2 _ rfl hres2.src ?d1 ?d2 ?d3 ?_)
      case d1 => unfold maxLen; omega
      case d2 => omega
      case d3 => omega
      intro vo3 w3 hro3 hg3 hat3 _
      have hbl3 : Below w.heap.size wr w3 := hbl2.grown hg3 (by omega) (fun g hg => (hro.lt g hg).1)
      have hrl3 := hrl2.kept hg3 HNE.out
      have hne3 : (Value.slice Al2 (ls.length + n2) cl2).ownBlock = none ∨ (Value.slice Al2 (ls.length + n2) cl2).ownBlock ≠ vo3.ownBlock := by
        rcases hat3 with h0 | h0
        · rw [h0]; exact HNE.out
        · rw [h0]; exact .inr (fun e => by have := (hrl2.lt _ e).2; omega)
      have HNE3 := Lib.hid hne3
      clear hne3 hat3 hg3
      go_wp2
      go_roundw
      case rel =>
        have hr2 := HO2.out
        refine ⟨dn ++ stepO c dn rs, rs.drop sN, ls ++ stepO c dn rs, _, q' - sN, e' - sN, ?_, by omega, (hir.below hbl3).drop hsn, by simpa [hr2] using hro3, by simpa [hr2] using hrl3, HNE3.out, ?_, ?_, HAP'.out, Below.trans hnw hbl3⟩
        · rfl
        · rw [List.length_append, hr2]; omega
        · rw [List.length_append, hr2]; omega
      case measure => simp only []; omega
    · have hp0' : q' = 0 := by omega
      subst hp0'
      have hrs : rs = [] := List.eq_nil_of_length_eq_zero HRL.out
      have hdn : ls = restM c out inn := by rw [← HAP.out, hrs]; simp [restF]
      have HD := Lib.hid hdn
      clear hrs hdn
      go_wp2
      go_ret
      refine ⟨_, rfl, ?_, hnw⟩
      rw [← HD.out]
      exact hrl
end
end Go.Proofs.Ytglmlbmjppblbaa
