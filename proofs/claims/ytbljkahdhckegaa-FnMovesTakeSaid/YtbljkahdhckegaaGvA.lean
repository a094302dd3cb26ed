/-
  Whether a graph is valid, as the program and as the reference ask it.
-/
import Derived.Test.YtbljkahdhckegaaRowsA
import Derived.Test.YtbljkahdhckegaaIxIG
namespace Go.Proofs.Ytbljkahdhckegaa
open Go.RowKit

def rgt (z : Int) : Bool := inB z 0 15
/-- What a row must be: m numbers long, at least n, at most ten, all of them rights. -/
def rowOk (m n : Nat) (r : List Int) : Bool := decide (r.length = m) && inB r.length n 10 && r.all rgt
def len0 : List (List Int) → Nat
  | [] => 0
  | r :: _ => r.length
def gValid (xss : List (List Int)) : Bool := xss.all (rowOk (len0 xss) xss.length) && decide (xss.length ≤ 6)
theorem len0_get {xss : List (List Int)} {x : List Int} (h : xss[0]? = some x) : len0 xss = x.length := by
  cases xss with
  | nil => simp at h
  | cons y r => simp only [List.getElem?_cons_zero, Option.some.injEq] at h; subst h; rfl

theorem GraphValidFn_any (z : Int) (w : World) :
    Calls Try.prog 54 #[.int .i64 z] w fun e w' => e = .returned (.bool (!rgt z)) ∧ w = w' := by
  go_enter Try.func54, Try.ntmps54
  go_wp2_with ((go_at_call 50; refine (RightsValid_any _ _).mono ?_; rintro e w' ⟨rfl, rfl⟩))
  go_ret
  exact ⟨rfl, rfl⟩

set_option maxHeartbeats 400000 in
theorem ContainsFuncG_any (A : Option Addr) (n c : Nat) (zs : List Int) (w : World) (h : Rd w 1 A n c (cI zs)) :
    Calls Try.prog 53 #[.slice A n c, .func (.func 54) #[] #[]] w fun e w' => e = .returned (.bool (zs.any fun z => !rgt z)) ∧ Ext w w' := by
  have e := idxOr_any (fun z => !rgt z) zs
  obtain ⟨ix, hix⟩ : ∃ z, idxOr (fun z => !rgt z) zs = z := ⟨_, rfl⟩
  rw [hix] at e
  have E := Lib.hid e
  have HIX := Lib.hid hix
  clear e hix
  go_enter Try.func53, Try.ntmps53
  go_wp2_with fail
  refine (IndexIG_any (fun z => !rgt z) _ _ _ _ _ h (fun z w1 _ => (GraphValidFn_any z w1).mono fun e w2 ⟨he, hw⟩ => ⟨he, hw ▸ Below.refl _ _⟩)).mono ?_; rintro e w2 ⟨rfl, hb2⟩; rw [HIX.out]
  go_wp2
  go_ret
  exact ⟨ret_bool E.out, hb2⟩

set_option maxHeartbeats 1000000 in
theorem GraphValid_any (A : Option Addr) (n c : Nat) (xss : List (List Int)) (w : World) (h : RdR w A n c xss) :
    Calls Try.prog 27 #[.slice A n c] w fun e w' => e = .returned (.bool (gValid xss)) ∧ Ext w w' := by
  have hle := h.le
  have htop := h.top
  have HL := Lib.hid h.lenR
  go_enter Try.func27, Try.ntmps27
  go_wp2
  go_loopw [7] (fun i wr => ∃ k : Nat, k ≤ n ∧ i = .int .i64 k ∧ Ext w wr ∧ Hid (xss.all (rowOk (len0 xss) xss.length) = (xss.drop k).all (rowOk (len0 xss) xss.length))) (fun i _ => n - (intOf i).toNat)
  case atStart => exact ⟨0, Nat.zero_le _, rfl, Below.refl _ _, rfl⟩
  case round =>
    obtain ⟨k, hk, rfl, hb, H⟩ := hrel
    by_cases hlt : k < n
    · obtain ⟨b, off, A1, m, c1, xs, rfl, X, g0, R⟩ := (h.below hb).atR hlt
      obtain ⟨b', off', A2, m0, c2, ys, hA, X0, g00, R0⟩ := (h.below hb).atR (k := 0) (by omega)
      simp only [Option.some.injEq, Addr.mk.injEq, and_true] at hA
      obtain ⟨rfl, rfl⟩ := hA
      rw [Nat.add_zero] at g00
      have hm := R.lenI
      have hm0 : len0 xss = m0 := by rw [len0_get X0.out, R0.lenI]
      have e : xss.all (rowOk (len0 xss) xss.length) = (decide ((m : Int) = (m0 : Int)) && inB m n 10 && xs.all rgt && (xss.drop (k + 1)).all (rowOk (len0 xss) xss.length)) := by
        rw [H.out, drop_of_get X.out, List.all_cons]
        congr 1
        unfold rowOk
        rw [hm0, hm, HL.out, show decide (m = m0) = decide ((m : Int) = (m0 : Int)) from decide_eq_decide.2 (by omega)]
      have E := Lib.hid e
      have hmt := Nat.le_trans R.le R.top
      have hmt0 := Nat.le_trans R0.le R0.top
      have ea : (xs.any fun z => !rgt z) = !(xs.all rgt) := by simp [List.not_all_eq_any_not]
      obtain ⟨ta, hta⟩ : ∃ t, xs.all rgt = t := ⟨_, rfl⟩
      rw [hta] at ea
      have EA := Lib.hid ea
      have HTA := Lib.hid hta
      clear h e H HL X X0 hm hm0 R0 ea hta
      go_wp2_with (first | ((go_at_call 52; refine (in_any _ _ _ _).mono ?_; rintro e w' ⟨rfl, rfl⟩)) | ((go_at_call 53; refine (ContainsFuncG_any _ _ _ _ _ R).mono ?_; rintro e w2 ⟨rfl, hb2⟩; rw [EA.out])))
      all_goals first
        | (go_ret; first | exact ⟨ret_bool (by unfold gValid; rw [E.out, HTA.out]; simp_all), hb⟩ | exact ⟨ret_bool (by unfold gValid; rw [E.out, HTA.out]; simp_all), hb.trans hb2⟩)
        | (have hm : (decide ((m : Int) = (m0 : Int)) && inB m n 10 && ta) = true := by simp_all
           go_roundw
           case rel => exact ⟨k + 1, by omega, by go_num, hb.trans hb2, by rw [E.out, HTA.out, hm]; exact Bool.true_and _⟩
           case measure => simp [intOf]; omega)
    · have e : gValid xss = decide ((n : Int) ≤ 6) := by
        unfold gValid
        rw [H.out, drop_all HL.out (by omega), HL.out]
        simp only [List.all_nil, Bool.true_and, decide_eq_decide]
        omega
      have E := Lib.hid e
      clear h e H HL
      go_wp2
      go_ret
      exact ⟨ret_bool E.out.symm, hb⟩

set_option maxHeartbeats 2000000 in
theorem specGraphValid_any (A : Option Addr) (n c : Nat) (xss : List (List Int)) (w : World) (h : RdR w A n c xss) :
    Calls Try.prog 23 #[.slice A n c] w fun e w' => e = .returned (.bool (gValid xss)) ∧ Ext w w' := by
  have hle := h.le
  have htop := h.top
  have HL := Lib.hid h.lenR
  by_cases h6 : 6 < n
  · have e : gValid xss = false := by unfold gValid; rw [HL.out]; simp; intro _; omega
    have E := Lib.hid e
    clear e h
    go_enter Try.func23, Try.ntmps23
    go_wp2
    go_ret
    exact ⟨ret_bool E.out.symm, Below.refl _ _⟩
  · have e0 : gValid xss = xss.all (rowOk (len0 xss) xss.length) := by unfold gValid; rw [HL.out, decide_eq_true (by omega), Bool.and_true]
    have E0 := Lib.hid e0
    clear e0
    go_enter Try.func23, Try.ntmps23
    go_wp2
    go_loopw [3] (fun i wr => ∃ k : Nat, k ≤ n ∧ i = .int .i64 k ∧ Ext w wr ∧ Hid (xss.all (rowOk (len0 xss) xss.length) = (xss.drop k).all (rowOk (len0 xss) xss.length))) (fun i _ => n - (intOf i).toNat)
    case atStart => exact ⟨0, Nat.zero_le _, rfl, Below.refl _ _, rfl⟩
    case round =>
      obtain ⟨k, hk, rfl, hb, H⟩ := hrel
      by_cases hlt : k < n
      · obtain ⟨b, off, A1, m, c1, xs, rfl, X, g0, R⟩ := (h.below hb).atR hlt
        obtain ⟨b', off', A2, m0, c2, ys, hA, X0, g00, R0⟩ := (h.below hb).atR (k := 0) (by omega)
        simp only [Option.some.injEq, Addr.mk.injEq, and_true] at hA
        obtain ⟨rfl, rfl⟩ := hA
        rw [Nat.add_zero] at g00
        have hm := R.lenI
        have hm0 : len0 xss = m0 := by rw [len0_get X0.out, R0.lenI]
        have e : xss.all (rowOk (len0 xss) xss.length) = (decide (m = m0) && inB m n 10 && xs.all rgt && (xss.drop (k + 1)).all (rowOk (len0 xss) xss.length)) := by
          rw [H.out, drop_of_get X.out, List.all_cons]
          congr 1
          unfold rowOk
          rw [hm0, hm, HL.out]
        have E := Lib.hid e
        have HM := Lib.hid hm
        have hmt := Nat.le_trans R.le R.top
        have hmt0 := Nat.le_trans R0.le R0.top
        have G0 := later_cell g0
        have G00 := later_cell g00
        clear e H X0 hm hm0 R0 g00
        obtain ⟨t1, ht1⟩ : ∃ t, ((m : Int) != (m0 : Int)) = t := ⟨_, rfl⟩
        obtain ⟨t2, ht2⟩ : ∃ t, decide ((10 : Int) < (m : Int)) = t := ⟨_, rfl⟩
        obtain ⟨t3, ht3⟩ : ∃ t, decide (m < n) = t := ⟨_, rfl⟩
        have et : (decide (m = m0) && inB m n 10) = !(t1 || t2 || t3) := by
          rw [← ht1, ← ht2, ← ht3]
          unfold inB
          rw [Bool.eq_iff_iff]
          simp
          omega
        have ET := Lib.hid et
        clear HL et
        go_wp2
        (refine wp_region_later (by kernel_rfl) (by kernel_rfl) ?_; repeat (any_goals (first | (with_reducible refine wpQuiet_nil ?_; intro wq hq) | go_big_quiet_step ((fail)) | (with_reducible show wpQuiet _ _ _ _ _ _; cases t1 <;> (try simp only [Bool.not_true, Bool.not_false])) | (with_reducible show wpQuiet _ _ _ _ _ _; cases t2 <;> (try simp only [Bool.not_true, Bool.not_false])) | (with_reducible show wpQuiet _ _ _ _ _ _; cases t3 <;> (try simp only [Bool.not_true, Bool.not_false])))))
        all_goals go_wp2
        all_goals first
          | (go_ret; exact ⟨ret_bool (by rw [E0.out, E.out, ET.out]; simp_all), hb.trans hq⟩)
          | (have e2 : xss.all (rowOk (len0 xss) xss.length) = (xs.all rgt && (xss.drop (k + 1)).all (rowOk (len0 xss) xss.length)) := by rw [E.out, ET.out]; simp_all
             have E2 := Lib.hid e2
             have hx := hb.trans hq
             have h3f : t3 = false := by assumption
             subst h3f
             clear hb hq E ET e2 ht1 ht2 ht3 G0 G00 g0 R
             go_loopw [4] (fun j wi => ∃ i : Nat, i ≤ m ∧ j = .int .i64 i ∧ Ext w wi ∧ Hid (xs.all rgt = (xs.drop i).all rgt)) (fun j _ => m - (intOf j).toNat)
             case atStart => exact ⟨0, Nat.zero_le _, rfl, hx, rfl⟩
             case round =>
               obtain ⟨i, hi, rfl, hb2, HI⟩ := hrel
               obtain ⟨b2, off2, A3, m3, c3, zs, hA, X3, g3, R3⟩ := (h.below hb2).atR (k := k) hlt
               simp only [Option.some.injEq, Addr.mk.injEq, and_true] at hA
               obtain ⟨rfl, rfl⟩ := hA
               obtain rfl : zs = xs := by have := X3.out.symm.trans X.out; simpa using this
               obtain rfl : m3 = m := by rw [← R3.lenI, HM.out]
               have hmt3 := Nat.le_trans R3.le R3.top
               have hml3 := R3.le
               have hmt4 := R3.top
               clear X3
               by_cases him : i < m3
               · obtain ⟨b4, off4, z, rfl, Z, g4⟩ := R3.atI him
                 have e3 : zs.all rgt = (inB z 0 15 && (zs.drop (i + 1)).all rgt) := by rw [HI.out, drop_of_get Z.out]; rfl
                 have E3 := Lib.hid e3
                 clear e3 HI R3 h X Z
                 cases hz : inB z 0 15 with
                 | false =>
                   go_wp2_with ((go_at_call 49; refine (specRightsValid_any _ _).mono ?_; rintro e w' ⟨rfl, rfl⟩; rw [hz]))
                   go_ret
                   exact ⟨ret_bool (by rw [E0.out, E2.out, E3.out, hz]; rfl), hb2⟩
                 | true =>
                   go_wp2_with ((go_at_call 49; refine (specRightsValid_any _ _).mono ?_; rintro e w' ⟨rfl, rfl⟩; rw [hz]))
                   go_roundw
                   case rel => exact ⟨i + 1, by omega, by go_num, hb2, by rw [E3.out, hz]; exact Bool.true_and _⟩
                   case measure => simp [intOf]; omega
               · have e4 : xss.all (rowOk (len0 xss) xss.length) = (xss.drop (k + 1)).all (rowOk (len0 xss) xss.length) := by
                   rw [E2.out, HI.out, drop_all HM.out (by omega)]; rfl
                 have E4 := Lib.hid e4
                 clear e4 E2 HI R3 h X
                 go_wp2
                 go_roundw
                 case rel => exact ⟨k + 1, by omega, by go_num, hb2, E4⟩
                 case measure => simp [intOf]; omega)
      · have e : gValid xss = true := by
          rw [E0.out, H.out, drop_all HL.out (by omega)]; rfl
        have E := Lib.hid e
        clear h e H HL
        go_wp2
        go_ret
        exact ⟨ret_bool E.out.symm, hb⟩
end Go.Proofs.Ytbljkahdhckegaa
