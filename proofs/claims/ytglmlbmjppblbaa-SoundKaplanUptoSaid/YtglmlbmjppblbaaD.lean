/- Sound changes: Clone, step, apply. -/
import Derived.Test.YtglmlbmjppblbaaC
namespace Go.Proofs.Ytglmlbmjppblbaa
open Go.RowKit Go.Kap

theorem info3 : (Try.prog.info? 3).map (fun i => (i.zero, i.size, i.bytes)) = some (some (.int .i64 0), 1, 8) := by kernel_rfl

theorem build220 (w : World) : (Instr.buildSlice 22 0 #[]).run Try.prog w = .ok (.slice (some ⟨w.heap.size, 0, none⟩) 0 0) (w.alloc (.cells #[] 3)) := by kernel_rfl

/-- It hands back a new row. -/
def RowPost (w : World) (base : Nat) (e : TypeId) (size n : Nat) (xs : List Value) (en : Ending) (w' : World) : Prop := ∃ v, en = .returned v ∧ Row w' base e size v n xs ∧ New w w'

theorem clone_any (A : Option Addr) (n c : Nat) (xs : List Int) (w : World) (h : Ints w w.heap.size A n c xs) (hn : n ≤ 1099511627776) :
    Calls Try.prog 16 #[.slice A n c] w (RowPost w w.heap.size 3 1 n (xs.map (.int .i64))) := by
  obtain ⟨i0, hi0, hz0, hz1, hz2⟩ := info_parts info3
  have hs := h.src
  cases A with
  | none =>
    have hn0 : n = 0 := by
      rcases Nat.eq_zero_or_pos n with h0 | h0
      · exact h0
      · obtain ⟨b, off, e, _⟩ := h.2.2 h0
        cases e
    subst hn0
    have hx : xs = [] := List.eq_nil_of_length_eq_zero h.1
    subst hx
    have heq := fun w => Lib.run_eql_slice_nil (P := Try.prog) w 22 3 none 0 c 0 0 Try.underlying22
    have HS := Lib.hid hs
    have HH := Lib.hid h
    clear hs h
    go_enter Try.func16, Try.ntmps16
    go_wp2
    go_ret
    exact ⟨_, rfl, Row.nil_ _ _ _ _, Below.refl _ _⟩
  | some a =>
    have heq := fun w => Lib.run_eql_slice_nil (P := Try.prog) w 22 3 (some a) n c 0 0 Try.underlying22
    have hbs := build220
    have HS := Lib.hid hs
    clear hs h
    have hne := new_alloc w (.cells #[] 3)
    have hr0 : Row (w.alloc (.cells #[] 3)) w.heap.size 3 1 (.slice (some ⟨w.heap.size, 0, none⟩) 0 0) 0 [] := Row.fresh w #[] 0 (Nat.le_refl _) (by simp) (Nat.zero_le _)
    go_enter Try.func16, Try.ntmps16
    go_wp2_with (at_builtin; refine wpList_append_row _ rfl _ _ 22 rfl w.heap.size 3 i0 (.int .i64 0) 1 8 Try.underlying22 hi0 hz0 hz1 hz2 rfl (by decide) _ 0 [] rfl hr0 (some a) n c _ rfl (HS.out.new_ hne) ?c1 ?c2 ?c3 ?_)
    case c1 => unfold maxLen; omega
    case c2 => omega
    case c3 => simp
    intro v' w1 hrow hgrow hat hnil
    have hnew := New.row hne hr0 (Nat.le_refl _) hgrow
    go_wp2
    go_ret
    exact ⟨_, rfl, by simpa using hrow, hnew⟩

def stepN (c : ChgM) (out inn : List Int) : Nat := if turnsM c out inn then c.frm.length else 1
def stepO (c : ChgM) (out inn : List Int) : List Int := if turnsM c out inn then c.to else inn.take 1

/-- How much is read, and what is written. -/
def StepPost (c : ChgM) (out inn : List Int) (w : World) (en : Ending) (w' : World) : Prop :=
  ∃ A n k, en = .returned (.tuple #[.int .i64 (stepN c out inn), .slice A n k]) ∧ Ints w w.heap.size A n k (stepO c out inn) ∧ New w w'

theorem step_any (k : Int) (H : ChgH) (c : ChgM) (O I : Option Addr) (m d p e : Nat) (out inn : List Int) (w : World) (h : Chg w w.heap.size H c) (ho : Ints w w.heap.size O m d out) (hi : Ints w w.heap.size I p e inn) (hp : 0 < p) :
    Calls Try.prog 21 #[.agg #[.int .i64 k, .slice H.a1 H.n1 H.c1, .slice H.a2 H.n2 H.c2, .slice H.a3 H.n3 H.c3, .slice H.a4 H.n4 H.c4], .slice O m d, .slice I p e] w (StepPost c out inn w) := by
  have h' := h.new_ (new_alloc w (.cells #[.int .i64 k, .slice H.a1 H.n1 H.c1, .slice H.a2 H.n2 H.c2, .slice H.a3 H.n3 H.c3, .slice H.a4 H.n4 H.c4] 25))
  have ho' := ho.new_ (new_alloc w (.cells #[.int .i64 k, .slice H.a1 H.n1 H.c1, .slice H.a2 H.n2 H.c2, .slice H.a3 H.n3 H.c3, .slice H.a4 H.n4 H.c4] 25))
  have hi' := hi.new_ (new_alloc w (.cells #[.int .i64 k, .slice H.a1 H.n1 H.c1, .slice H.a2 H.n2 H.c2, .slice H.a3 H.n3 H.c3, .slice H.a4 H.n4 H.c4] 25))
  have hr1 := hi.take (k := 1) (by omega)
  have hfl := h.frm.1
  have hcap := hi.2.1
  have HFL := Lib.hid hfl
  clear hfl
  cases ht : turnsM c out inn
  · have HT := Lib.hid ht
    clear ht
    go_enter Try.func21, Try.ntmps21
    go_wp2_with fail
    refine (turns_any k H c O I m d p e out inn _ h' ho' hi').mono ?_
    rw [HT.out]
    rintro en w' ⟨rfl, hnew⟩
    have hnew' := New.trans (new_alloc w _) hnew
    go_wp2
    go_quiet (fail)
    go_wp2
    go_ret2
    refine ⟨I, 1, e, ?_, ?_, hnew'.drewN _⟩
    · show Ending.returned (.tuple #[.int .i64 1, .slice I 1 e]) = _
      simp [stepN, HT.out]
    · unfold stepO; rw [HT.out]; exact hr1
  · have HT := Lib.hid ht
    clear ht
    go_enter Try.func21, Try.ntmps21
    go_wp2_with fail
    refine (turns_any k H c O I m d p e out inn _ h' ho' hi').mono ?_
    rw [HT.out]
    rintro en w' ⟨rfl, hnew⟩
    have hnew' := New.trans (new_alloc w _) hnew
    have hc1 := hnew.cell (p := ⟨w.heap.size, 1, none⟩) (by simp)
    have hc2 := hnew.cell (p := ⟨w.heap.size, 2, none⟩) (by simp)
    simp [go_sem] at hc1 hc2
    go_wp2
    go_quiet (fail)
    go_wp2
    go_ret2
    refine ⟨H.a2, H.n2, H.c2, ?_, ?_, hnew'.drewN _⟩
    · show Ending.returned (.tuple #[.int .i64 (H.n1 : Int), .slice H.a2 H.n2 H.c2]) = _
      unfold stepN; rw [HT.out, if_pos rfl, HFL.out]
    · unfold stepO; rw [HT.out]; exact h.to

/-- C2: one change of what is left, behind what was written; f: fuel. -/
def appF (c : ChgM) : Nat → List Int → List Int → List Int
  | 0, out, _ => out
  | f + 1, out, inn => if inn = [] then out else appF c f (out ++ stepO c out inn) (inn.drop (stepN c out inn))
def applyM (c : ChgM) (text : List Int) : List Int := appF c text.length [] text

theorem stepN_le (c : ChgM) (out inn : List Int) (h : inn ≠ []) : stepN c out inn ≤ inn.length := by
  unfold stepN
  split
  · rename_i ht
    unfold turnsM at ht
    simp only [Bool.and_eq_true, decide_eq_true_eq] at ht
    exact ht.1.1.1
  · cases inn with
    | nil => exact absurd rfl h
    | cons => simp
theorem stepN_pos (c : ChgM) (out inn : List Int) (h : 0 < c.frm.length) : 0 < stepN c out inn := by
  unfold stepN; split <;> omega
theorem stepO_len (c : ChgM) (out inn : List Int) (h : c.to.length ≤ 2) : (stepO c out inn).length ≤ 2 := by
  unfold stepO; split
  · exact h
  · rw [List.length_take]; omega
theorem appF_done (c : ChgM) : ∀ (f g : Nat) (out inn : List Int), 0 < c.frm.length → inn.length ≤ f → inn.length ≤ g → appF c f out inn = appF c g out inn := by
  intro f
  induction f with
  | zero =>
    intro g out inn _ h _
    have : inn = [] := List.eq_nil_of_length_eq_zero (by omega)
    subst this
    cases g <;> simp [appF]
  | succ f ih =>
    intro g out inn h0 hf hg
    by_cases hn : inn = []
    · subst hn
      cases g <;> simp [appF]
    · cases g with
      | zero => exact absurd (List.eq_nil_of_length_eq_zero (by omega)) hn
      | succ g =>
        simp only [appF, if_neg hn]
        have hp := stepN_pos c out inn h0
        apply ih
        · exact h0
        · rw [List.length_drop]; omega
        · rw [List.length_drop]; omega

theorem Ints.drop {w : World} {B n c : Nat} {A : Option Addr} {xs : List Int} (h : Ints w B A n c xs) {k : Nat} (hk : k ≤ n) : Ints w B (if c = k then A else A.map (·.add k)) (n - k) (c - k) (xs.drop k) := by
  obtain ⟨h1, h2, h3⟩ := h
  refine ⟨by rw [List.length_drop]; omega, by omega, fun h0 => ?_⟩
  obtain ⟨b, off, rfl, hb, hc⟩ := h3 (by omega)
  rw [if_neg (by omega)]
  refine ⟨b, off + k, by simp [Addr.add_lit], hb, fun j hj => ?_⟩
  rw [Nat.add_assoc, hc (k + j) (by omega)]
  simp [List.getD, List.getElem?_drop]

theorem apply_any (k : Int) (H : ChgH) (c : ChgM) (I : Option Addr) (p e : Nat) (inn : List Int) (w : World) (h : Chg w w.heap.size H c) (hi : Ints w w.heap.size I p e inn) (hf : 0 < c.frm.length) (ht : c.to.length ≤ 2) (hp : p ≤ 1048576) :
    Calls Try.prog 14 #[.agg #[.int .i64 k, .slice H.a1 H.n1 H.c1, .slice H.a2 H.n2 H.c2, .slice H.a3 H.n3 H.c3, .slice H.a4 H.n4 H.c4], .slice I p e] w
      fun en w' => RowPost w w.heap.size 3 1 (applyM c inn).length ((applyM c inn).map (.int .i64)) en w' := by
  obtain ⟨i0, hi0, hz0, hz1, hz2⟩ := info_parts info3
  have HL := Lib.hid hi.1
  have hfl := Lib.hid hf
  clear hf
  have HA : Hid (appF c inn.length [] inn = applyM c inn) := rfl
  have hnw := new_alloc w (.cells #[.int .i64 k, .slice H.a1 H.n1 H.c1, .slice H.a2 H.n2 H.c2, .slice H.a3 H.n3 H.c3, .slice H.a4 H.n4 H.c4] 25)
  have hi' := hi.below hnw
  clear hi
  go_enter Try.func14, Try.ntmps14
  go_wp2
  go_loopw [5, 1] (fun v t wr => ∃ (dn rs : List Int) (A' : Option Addr) (p' e' : Nat), t = .slice A' p' e' ∧ p' ≤ p ∧ Ints wr w.heap.size A' p' e' rs ∧ Row wr (w.heap.size + 1) 3 1 v dn.length (dn.map (.int .i64)) ∧ dn.length + 2 * p' ≤ 2 * p ∧
      appF c rs.length dn rs = applyM c inn ∧ Below (w.heap.size + 1) (w.alloc (.cells #[.int .i64 k, .slice H.a1 H.n1 H.c1, .slice H.a2 H.n2 H.c2, .slice H.a3 H.n3 H.c3, .slice H.a4 H.n4 H.c4] 25)) wr)
    (fun _ t _ => match t with | .slice _ n _ => n | _ => 0)
  case atStart => exact ⟨[], inn, I, p, e, rfl, Nat.le_refl _, hi', Row.nil_ _ _ _ _, by simp, HA.out, Below.refl _ _⟩
  case round =>
    obtain ⟨dn, rs, A', p', e', rfl, hpp, hir, hrow, hdl, hap, hbw⟩ := hrel
    have HAP := Lib.hid hap
    clear hap
    have HRL := Lib.hid hir.1
    have hsz := hbw.size
    simp only [World.size_alloc] at hsz
    obtain ⟨Ao, co, rfl, hio⟩ := Row.ints hrow (by omega)
    by_cases hp0 : 0 < p'
    · have hbox := hbw.cell (p := ⟨w.heap.size, 0, none⟩) (by simp)
      have hbox1 := hbw.cell (p := ⟨w.heap.size, 1, none⟩) (by simp)
      have hbox2 := hbw.cell (p := ⟨w.heap.size, 2, none⟩) (by simp)
      have hbox3 := hbw.cell (p := ⟨w.heap.size, 3, none⟩) (by simp)
      have hbox4 := hbw.cell (p := ⟨w.heap.size, 4, none⟩) (by simp)
      simp [go_sem] at hbox hbox1 hbox2 hbox3 hbox4
      have hcr : Chg wr wr.heap.size H c := (h.below (below_old hbw)).more (by omega)
      go_wp2_with fail
      refine (step_any k H c Ao A' dn.length co p' e' dn rs _ hcr hio (hir.more (by omega)) hp0).mono ?_
      rintro en w' ⟨A2, n2, k2, rfl, hres, hnew⟩
      have hne : rs ≠ [] := fun e => by have := HRL.out; rw [e] at this; simp at this; omega
      have hsn : stepN c dn rs ≤ p' := by have := stepN_le c dn rs hne; rw [HRL.out] at this; exact this
      have hsp := stepN_pos c dn rs hfl.out
      have ho2 := stepO_len c dn rs ht
      have HO2 := Lib.hid hres.1
      have hn22 : n2 ≤ 2 := by rw [hres.1] at ho2; exact ho2
      have HAP' : Hid (appF c (rs.drop (stepN c dn rs)).length (dn ++ stepO c dn rs) (rs.drop (stepN c dn rs)) = applyM c inn) := by
        unfold Hid
        rw [← HAP.out]
        have hr : rs.length = (rs.length - 1) + 1 := by have := HRL.out; omega
        rw [hr]
        simp only [appF, if_neg hne]
        exact appF_done _ _ _ _ _ hfl.out (by omega) (by rw [List.length_drop]; omega)
      have hsrc := (hres.new_ hnew).src
      have hrow' := hrow.new_ hnew
      have hid := (hir.below (hnew.mono (by omega))).drop hsn
      generalize hsN : stepN c dn rs = sN at *
      have HSN := Lib.hid hsN
      clear hsN hne ho2 hbox hbox1 hbox2 hbox3 hbox4 hcr hio
      go_wp2_with (at_builtin; refine wpList_append_row _ rfl _ _ 22 rfl (w.heap.size + 1) 3 i0 (.int .i64 0) 1 8 Try.underlying22 hi0 hz0 hz1 hz2 rfl (by decide) _ _ _ rfl hrow' A2 n2 k2 _ rfl hsrc ?c1 ?c2 ?c3 ?_)
      case c1 => unfold maxLen; omega
      case c2 => omega
      case c3 => have := hnew.size; omega
      intro v' w1 hrw hgrow hat hnil
      have hnw1 : Below (w.heap.size + 1) wr w1 := (hnew.mono (by omega)).grown hgrow (by have := hnew.size; omega) (fun g hg => (hrow.lt g hg).1)
      have hlt := hrow'.lt
      go_wp2
      go_roundw
      case rel =>
        have hr2 := HO2.out
        refine ⟨dn ++ stepO c dn rs, rs.drop sN, _, p' - sN, e' - sN, ?_, by omega, (hid.keep fun q hq => (Below.mono hnw1 (by omega)).cell hq |>.trans ((hnew.mono (by omega : w.heap.size ≤ wr.heap.size)).cell hq).symm), by simpa [hr2] using hrw, ?_, HAP'.out, hbw.trans hnw1⟩
        · rfl
        · rw [List.length_append, hr2]; omega
      case measure => simp only []; omega
    · have hp0' : p' = 0 := by omega
      subst hp0'
      have hrs : rs = [] := List.eq_nil_of_length_eq_zero HRL.out
      have hdn : dn = applyM c inn := by rw [← HAP.out, hrs]; rfl
      have HD := Lib.hid hdn
      clear hrs hdn
      go_wp2
      go_ret
      refine ⟨_, rfl, ?_, below_old hbw⟩
      rw [← HD.out]
      exact hrow.mono (by omega)
end Go.Proofs.Ytglmlbmjppblbaa
