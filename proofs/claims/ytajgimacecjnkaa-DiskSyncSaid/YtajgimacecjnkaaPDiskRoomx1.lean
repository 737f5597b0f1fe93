-- PRINTED BY print.sh 35421559b90ae4d0a3588c463048766b98c2df88dd9212a6774a882060cdf62d: not written by this session
import Derived.Test.YtajgimacecjnkaaPDiskRoomx0
namespace Go.Proofs.Ytajgimacecjnkaa.PDiskRoom
open Go.RowKit Go.Proofs.YtajgimacecjnkaaW.PrintWords Go.Proofs.YtajgimacecjnkaaW.PrintLast Go.Proofs.YtajgimacecjnkaaW.PrintMore
attribute [local go_sem] max2_int min2_int max_two min_two max_three min_three max_four min_four   -- for this text's walks alone
set_option linter.unusedVariables false
set_option linter.unusedSimpArgs false

/-! ### estreatlaw06_great: function 6 -/
mutual
def estreatlaw06_great.l0 : Nat → List (S32) → Int → Option (Bool)
  | 0, _, _ => none
  | k + 1, x0, x3 => if x3 < (x0.length : Int) then (estreatlaw06_great.j1 k x0 x3 (decide (x3 < 60))) else (estreatlaw06_great.j1 k x0 x3 false)
def estreatlaw06_great.j1 : Nat → List (S32) → Int → Bool → Option (Bool)
  | 0, _, _, _ => none
  | k + 1, x0, x3, x11 => if x11 = true then (if 0 ≤ x3 then (if x3 < (x0.length : Int) then (if (((rd_T32 x0 x3).f3).length : Int) > 100 then (some true) else (if (((rd_T32 x0 x3).f5).length : Int) > 100 then (some true) else (if (((rd_T32 x0 x3).f1).size : Int) > 100 then (some true) else (if (((rd_T32 x0 x3).f2).size : Int) > 100 then (some true) else (estreatlaw06_great.l0 k x0 (wrap64 (x3 + 1))))))) else (none)) else (none)) else (some (decide ((x0.length : Int) > 60)))
end
def estreatlaw06_great.f (k : Nat) (l0 : List (S32)) : Option (Bool) := estreatlaw06_great.l0 k l0 0
theorem estreatlaw06_great.mono_l : ∀ k, (∀ y0 y1, LeO (estreatlaw06_great.l0 k y0 y1) (estreatlaw06_great.l0 (k + 1) y0 y1)) ∧ (∀ y0 y1 y2, LeO (estreatlaw06_great.j1 k y0 y1 y2) (estreatlaw06_great.j1 (k + 1) y0 y1 y2))
  | 0 => ⟨fun _ _ r h => by simp [estreatlaw06_great.l0] at h, fun _ _ _ r h => by simp [estreatlaw06_great.j1] at h⟩
  | k + 1 => by
    obtain ⟨ih0, ih1⟩ := estreatlaw06_great.mono_l k
    refine ⟨?_, ?_⟩
    · intro y0 y1
      unfold estreatlaw06_great.l0
      repeat' first
      | (with_reducible exact ih0 _ _)
      | (with_reducible exact ih1 _ _ _)
      | (with_reducible exact LeO.refl _)
      | (with_reducible exact LeO.none _)
      | (with_reducible refine LeO.ite ?_ ?_)
      | (with_reducible refine LeO.bind ?_ (fun _ => ?_))
      | exact ih0 _ _
      | exact ih1 _ _ _
      | exact LeO.none _
      | refine LeO.ite ?_ ?_
      | refine LeO.bind ?_ (fun _ => ?_)
    · intro y0 y1 y2
      unfold estreatlaw06_great.j1
      repeat' first
      | (with_reducible exact ih0 _ _)
      | (with_reducible exact ih1 _ _ _)
      | (with_reducible exact LeO.refl _)
      | (with_reducible exact LeO.none _)
      | (with_reducible refine LeO.ite ?_ ?_)
      | (with_reducible refine LeO.bind ?_ (fun _ => ?_))
      | exact ih0 _ _
      | exact ih1 _ _ _
      | exact LeO.none _
      | refine LeO.ite ?_ ?_
      | refine LeO.bind ?_ (fun _ => ?_)
theorem estreatlaw06_great.mono : ∀ a0 k, LeO (estreatlaw06_great.f k a0) (estreatlaw06_great.f (k + 1) a0) := by
  intro a0 k
  obtain ⟨ih0, ih1⟩ := estreatlaw06_great.mono_l k
  unfold estreatlaw06_great.f
  repeat' first
      | (with_reducible exact ih0 _ _)
      | (with_reducible exact ih1 _ _ _)
      | (with_reducible exact LeO.refl _)
      | (with_reducible exact LeO.none _)
      | (with_reducible refine LeO.ite ?_ ?_)
      | (with_reducible refine LeO.bind ?_ (fun _ => ?_))
      | exact ih0 _ _
      | exact ih1 _ _ _
      | exact LeO.none _
      | refine LeO.ite ?_ ?_
      | refine LeO.bind ?_ (fun _ => ?_)
set_option maxHeartbeats 8000000 in
set_option maxRecDepth 100000 in
theorem estreatlaw06_great.calls (k : Nat) (A0 : Option Addr) (c0 : Nat) (l0 : List (S32)) (r : Bool) (w : World) (hr0 : Kd.C k32 w A0 l0.length l0) (hc0 : l0.length ≤ c0) (h : estreatlaw06_great.f k l0 = some r) :
    Calls Try.prog 6 #[.slice A0 l0.length c0] w fun e w' => e = .returned (.bool r) ∧ Drawn0 w w' := by
  have HR0 := Aside0.mk hr0
  have HC0 := Aside0.mk hc0
  clear hr0 hc0
  have H : (estreatlaw06_great.l0 k l0 0) = some r := h
  clear h
  have H' := Aside0.mk H
  clear H
  go_enter Try.func6, Try.ntmps6
  go_wp2
  go_loopg [3] k (fun kq v3 w' => ∃ (x3_1 : Int), v3 = .int .i64 x3_1 ∧ Aside0 (estreatlaw06_great.l0 kq l0 x3_1 = some r) ∧ Aside0 (kq ≤ k) ∧ Drawn0 w w')
  case atStart => exact ⟨(0), (by first | rfl | (simp; done) | (simp [*]; done)), H', ⟨Nat.le_refl _⟩, by repeat (first | exact Drawn0.refl _ | apply Drawn0.step)⟩
  case round =>
    clear H'
    obtain ⟨x3_1, rfl, HA, HK1, ⟨m1, rfl⟩⟩ := hrel
    cases gk with
    | zero => exact absurd HA.out (by simp [estreatlaw06_great.l0])
    | succ k1 =>
      have H := HA.out
      clear HA
      simp only [estreatlaw06_great.l0] at H
      have HC2 := Aside0.mk H
      clear H
      go_upto_region 2 with (fail)
      go_cut [11] (fun v11 wc => ∃ (kq : Nat) (x11_1 : Bool), v11 = .bool x11_1 ∧ Aside0 (estreatlaw06_great.j1 kq l0 x3_1 x11_1 = some r) ∧ Aside0 (kq ≤ k1) ∧ Drawn0 w wc)
      case first =>
        have H := HC2.out
        clear HC2
        by_cases c3 : x3_1 < (l0.length : Int)
        · rw [if_pos c3] at H
          have c3b0 : decide (x3_1 < (l0.length : Int)) = true := decide_eq_true c3
          clear c3
          (first | rw [c3b0] | (simp only [i64_w, i32_w]; rw [c3b0]) | skip)
          have H' := Aside0.mk H
          clear H
          go_wp2
          go_meet
          case rel => exact ⟨_, (decide (x3_1 < 60)), (by first | rfl | (simp; done) | (simp [*]; done)), H', ⟨by have := HK1.out; first | omega | exact Nat.le_refl _⟩, by repeat (first | exact Drawn0.refl _ | apply Drawn0.step)⟩
        · rw [if_neg c3] at H
          have c3b0 : decide (x3_1 < (l0.length : Int)) = false := decide_eq_false c3
          clear c3
          (first | rw [c3b0] | (simp only [i64_w, i32_w]; rw [c3b0]) | skip)
          have H' := Aside0.mk H
          clear H
          go_wp2
          go_meet
          case rel => exact ⟨_, (false), (by first | rfl | (simp; done) | (simp [*]; done)), H', ⟨by have := HK1.out; first | omega | exact Nat.le_refl _⟩, by repeat (first | exact Drawn0.refl _ | apply Drawn0.step)⟩
      case rest =>
        clear HC2
        try clear p2
        try clear c3
        try clear c3b0
        obtain ⟨kq, x11_1, rfl, HA, HJ1, ⟨mc1, rfl⟩⟩ := hcut
        cases kq with
        | zero => exact absurd HA.out (by simp [estreatlaw06_great.j1])
        | succ kj1 =>
          have H := HA.out
          clear HA
          simp only [estreatlaw06_great.j1] at H
          by_cases c4 : x11_1 = true
          · subst c4
            have H1 : (if 0 ≤ x3_1 then (if x3_1 < (l0.length : Int) then (if (((rd_T32 l0 x3_1).f3).length : Int) > 100 then (some true) else (if (((rd_T32 l0 x3_1).f5).length : Int) > 100 then (some true) else (if (((rd_T32 l0 x3_1).f1).size : Int) > 100 then (some true) else (if (((rd_T32 l0 x3_1).f2).size : Int) > 100 then (some true) else (estreatlaw06_great.l0 kj1 l0 (wrap64 (x3_1 + 1))))))) else (none)) else (none)) = some r := by rw [if_pos rfl] at H; exact H
            clear H
            have H := H1
            clear H1
            by_cases c5 : 0 ≤ x3_1
            · rw [if_pos c5] at H
              have c5b0 : decide (0 ≤ x3_1) = true := decide_eq_true c5
              clear c5
              by_cases c6 : x3_1 < (l0.length : Int)
              · rw [if_pos c6] at H
                have c6b0 : decide (x3_1 < (l0.length : Int)) = true := decide_eq_true c6
                clear c6
                by_cases c7 : (((rd_T32 l0 x3_1).f3).length : Int) > 100
                · rw [if_pos c7] at H
                  have c7b0 : decide (100 < (((rd_T32 l0 x3_1).f3).length : Int)) = true := decide_eq_true c7
                  have c7b1 : decide (100 < ((rd_T32 l0 x3_1).f3).length) = true := decide_eq_true (by omega)
                  clear c7
                  obtain rfl := Option.some.inj H
                  have p101 : 0 ≤ (x3_1 : Int) := of_decide_eq_true (by first | (with_reducible assumption) | assumption)
                  have q101 : x3_1 < (l0.length : Int) := of_decide_eq_true (by first | (with_reducible assumption) | assumption)
                  obtain ⟨ad101, A101_3, c101_3, A101_5, c101_5, e101, hx101_0, hx101_1, hx101_2, hx101_3, hx101_4, hx101_5, hl101_3, hi101_3, hl101_5, hi101_5⟩ := at_T32 HR0.out x3_1 p101 q101
                  cases e101
                  have HR101_3 := Aside0.mk hi101_3
                  have HC101_3 := Aside0.mk hl101_3
                  clear hi101_3 hl101_3
                  have HR101_5 := Aside0.mk hi101_5
                  have HC101_5 := Aside0.mk hl101_5
                  clear hi101_5 hl101_5
                  replace p101 := eq_true p101
                  replace q101 := eq_true q101
                  go_wp2
                  go_ret
                  exact ⟨by first | rfl | (simp; done) | (simp [*]; done), by repeat (first | exact Drawn0.refl _ | apply Drawn0.step)⟩
                · rw [if_neg c7] at H
                  have c7b0 : decide (100 < (((rd_T32 l0 x3_1).f3).length : Int)) = false := decide_eq_false c7
                  have c7b1 : decide (100 < ((rd_T32 l0 x3_1).f3).length) = false := decide_eq_false (by omega)
                  clear c7
                  by_cases c8 : (((rd_T32 l0 x3_1).f5).length : Int) > 100
                  · rw [if_pos c8] at H
                    have c8b0 : decide (100 < (((rd_T32 l0 x3_1).f5).length : Int)) = true := decide_eq_true c8
                    have c8b1 : decide (100 < ((rd_T32 l0 x3_1).f5).length) = true := decide_eq_true (by omega)
                    clear c8
                    obtain rfl := Option.some.inj H
                    have p101 : 0 ≤ (x3_1 : Int) := of_decide_eq_true (by first | (with_reducible assumption) | assumption)
                    have q101 : x3_1 < (l0.length : Int) := of_decide_eq_true (by first | (with_reducible assumption) | assumption)
                    obtain ⟨ad101, A101_3, c101_3, A101_5, c101_5, e101, hx101_0, hx101_1, hx101_2, hx101_3, hx101_4, hx101_5, hl101_3, hi101_3, hl101_5, hi101_5⟩ := at_T32 HR0.out x3_1 p101 q101
                    cases e101
                    have HR101_3 := Aside0.mk hi101_3
                    have HC101_3 := Aside0.mk hl101_3
                    clear hi101_3 hl101_3
                    have HR101_5 := Aside0.mk hi101_5
                    have HC101_5 := Aside0.mk hl101_5
                    clear hi101_5 hl101_5
                    replace p101 := eq_true p101
                    replace q101 := eq_true q101
                    have p102 : 0 ≤ (x3_1 : Int) := of_decide_eq_true (by first | (with_reducible assumption) | assumption)
                    have q102 : x3_1 < (l0.length : Int) := of_decide_eq_true (by first | (with_reducible assumption) | assumption)
                    obtain ⟨ad102, A102_3, c102_3, A102_5, c102_5, e102, hx102_0, hx102_1, hx102_2, hx102_3, hx102_4, hx102_5, hl102_3, hi102_3, hl102_5, hi102_5⟩ := at_T32 HR0.out x3_1 p102 q102
                    obtain rfl : ad101 = ad102 := (by injection e102)
                    have HR102_3 := Aside0.mk hi102_3
                    have HC102_3 := Aside0.mk hl102_3
                    clear hi102_3 hl102_3
                    have HR102_5 := Aside0.mk hi102_5
                    have HC102_5 := Aside0.mk hl102_5
                    clear hi102_5 hl102_5
                    replace p102 := eq_true p102
                    replace q102 := eq_true q102
                    have ea_ := Option.some.inj (hx101_3.symm.trans hx102_3)
                    injection ea_ with ea_ en_ ec_
                    subst ea_
                    subst ec_
                    clear en_
                    have ea_ := Option.some.inj (hx101_5.symm.trans hx102_5)
                    injection ea_ with ea_ en_ ec_
                    subst ea_
                    subst ec_
                    clear en_
                    go_wp2
                    go_ret
                    exact ⟨by first | rfl | (simp; done) | (simp [*]; done), by repeat (first | exact Drawn0.refl _ | apply Drawn0.step)⟩
                  · rw [if_neg c8] at H
                    have c8b0 : decide (100 < (((rd_T32 l0 x3_1).f5).length : Int)) = false := decide_eq_false c8
                    have c8b1 : decide (100 < ((rd_T32 l0 x3_1).f5).length) = false := decide_eq_false (by omega)
                    clear c8
                    by_cases c9 : (((rd_T32 l0 x3_1).f1).size : Int) > 100
                    · rw [if_pos c9] at H
                      have c9b0 : decide (100 < (((rd_T32 l0 x3_1).f1).size : Int)) = true := decide_eq_true c9
                      have c9b1 : decide (100 < ((rd_T32 l0 x3_1).f1).size) = true := decide_eq_true (by omega)
                      clear c9
                      obtain rfl := Option.some.inj H
                      have p101 : 0 ≤ (x3_1 : Int) := of_decide_eq_true (by first | (with_reducible assumption) | assumption)
                      have q101 : x3_1 < (l0.length : Int) := of_decide_eq_true (by first | (with_reducible assumption) | assumption)
                      obtain ⟨ad101, A101_3, c101_3, A101_5, c101_5, e101, hx101_0, hx101_1, hx101_2, hx101_3, hx101_4, hx101_5, hl101_3, hi101_3, hl101_5, hi101_5⟩ := at_T32 HR0.out x3_1 p101 q101
                      cases e101
                      have HR101_3 := Aside0.mk hi101_3
                      have HC101_3 := Aside0.mk hl101_3
                      clear hi101_3 hl101_3
                      have HR101_5 := Aside0.mk hi101_5
                      have HC101_5 := Aside0.mk hl101_5
                      clear hi101_5 hl101_5
                      replace p101 := eq_true p101
                      replace q101 := eq_true q101
                      have p102 : 0 ≤ (x3_1 : Int) := of_decide_eq_true (by first | (with_reducible assumption) | assumption)
                      have q102 : x3_1 < (l0.length : Int) := of_decide_eq_true (by first | (with_reducible assumption) | assumption)
                      obtain ⟨ad102, A102_3, c102_3, A102_5, c102_5, e102, hx102_0, hx102_1, hx102_2, hx102_3, hx102_4, hx102_5, hl102_3, hi102_3, hl102_5, hi102_5⟩ := at_T32 HR0.out x3_1 p102 q102
                      obtain rfl : ad101 = ad102 := (by injection e102)
                      have HR102_3 := Aside0.mk hi102_3
                      have HC102_3 := Aside0.mk hl102_3
                      clear hi102_3 hl102_3
                      have HR102_5 := Aside0.mk hi102_5
                      have HC102_5 := Aside0.mk hl102_5
                      clear hi102_5 hl102_5
                      replace p102 := eq_true p102
                      replace q102 := eq_true q102
                      have ea_ := Option.some.inj (hx101_3.symm.trans hx102_3)
                      injection ea_ with ea_ en_ ec_
                      subst ea_
                      subst ec_
                      clear en_
                      have ea_ := Option.some.inj (hx101_5.symm.trans hx102_5)
                      injection ea_ with ea_ en_ ec_
                      subst ea_
                      subst ec_
                      clear en_
                      have p103 : 0 ≤ (x3_1 : Int) := of_decide_eq_true (by first | (with_reducible assumption) | assumption)
                      have q103 : x3_1 < (l0.length : Int) := of_decide_eq_true (by first | (with_reducible assumption) | assumption)
                      obtain ⟨ad103, A103_3, c103_3, A103_5, c103_5, e103, hx103_0, hx103_1, hx103_2, hx103_3, hx103_4, hx103_5, hl103_3, hi103_3, hl103_5, hi103_5⟩ := at_T32 HR0.out x3_1 p103 q103
                      obtain rfl : ad101 = ad103 := (by injection e103)
                      have HR103_3 := Aside0.mk hi103_3
                      have HC103_3 := Aside0.mk hl103_3
                      clear hi103_3 hl103_3
                      have HR103_5 := Aside0.mk hi103_5
                      have HC103_5 := Aside0.mk hl103_5
                      clear hi103_5 hl103_5
                      replace p103 := eq_true p103
                      replace q103 := eq_true q103
                      have ea_ := Option.some.inj (hx101_3.symm.trans hx103_3)
                      injection ea_ with ea_ en_ ec_
                      subst ea_
                      subst ec_
                      clear en_
                      have ea_ := Option.some.inj (hx101_5.symm.trans hx103_5)
                      injection ea_ with ea_ en_ ec_
                      subst ea_
                      subst ec_
                      clear en_
                      go_wp2
                      go_ret
                      exact ⟨by first | rfl | (simp; done) | (simp [*]; done), by repeat (first | exact Drawn0.refl _ | apply Drawn0.step)⟩
                    · rw [if_neg c9] at H
                      have c9b0 : decide (100 < (((rd_T32 l0 x3_1).f1).size : Int)) = false := decide_eq_false c9
                      have c9b1 : decide (100 < ((rd_T32 l0 x3_1).f1).size) = false := decide_eq_false (by omega)
                      clear c9
                      by_cases c10 : (((rd_T32 l0 x3_1).f2).size : Int) > 100
                      · rw [if_pos c10] at H
                        have c10b0 : decide (100 < (((rd_T32 l0 x3_1).f2).size : Int)) = true := decide_eq_true c10
                        have c10b1 : decide (100 < ((rd_T32 l0 x3_1).f2).size) = true := decide_eq_true (by omega)
                        clear c10
                        obtain rfl := Option.some.inj H
                        have p101 : 0 ≤ (x3_1 : Int) := of_decide_eq_true (by first | (with_reducible assumption) | assumption)
                        have q101 : x3_1 < (l0.length : Int) := of_decide_eq_true (by first | (with_reducible assumption) | assumption)
                        obtain ⟨ad101, A101_3, c101_3, A101_5, c101_5, e101, hx101_0, hx101_1, hx101_2, hx101_3, hx101_4, hx101_5, hl101_3, hi101_3, hl101_5, hi101_5⟩ := at_T32 HR0.out x3_1 p101 q101
                        cases e101
                        have HR101_3 := Aside0.mk hi101_3
                        have HC101_3 := Aside0.mk hl101_3
                        clear hi101_3 hl101_3
                        have HR101_5 := Aside0.mk hi101_5
                        have HC101_5 := Aside0.mk hl101_5
                        clear hi101_5 hl101_5
                        replace p101 := eq_true p101
                        replace q101 := eq_true q101
                        have p102 : 0 ≤ (x3_1 : Int) := of_decide_eq_true (by first | (with_reducible assumption) | assumption)
                        have q102 : x3_1 < (l0.length : Int) := of_decide_eq_true (by first | (with_reducible assumption) | assumption)
                        obtain ⟨ad102, A102_3, c102_3, A102_5, c102_5, e102, hx102_0, hx102_1, hx102_2, hx102_3, hx102_4, hx102_5, hl102_3, hi102_3, hl102_5, hi102_5⟩ := at_T32 HR0.out x3_1 p102 q102
                        obtain rfl : ad101 = ad102 := (by injection e102)
                        have HR102_3 := Aside0.mk hi102_3
                        have HC102_3 := Aside0.mk hl102_3
                        clear hi102_3 hl102_3
                        have HR102_5 := Aside0.mk hi102_5
                        have HC102_5 := Aside0.mk hl102_5
                        clear hi102_5 hl102_5
                        replace p102 := eq_true p102
                        replace q102 := eq_true q102
                        have ea_ := Option.some.inj (hx101_3.symm.trans hx102_3)
                        injection ea_ with ea_ en_ ec_
                        subst ea_
                        subst ec_
                        clear en_
                        have ea_ := Option.some.inj (hx101_5.symm.trans hx102_5)
                        injection ea_ with ea_ en_ ec_
                        subst ea_
                        subst ec_
                        clear en_
                        have p103 : 0 ≤ (x3_1 : Int) := of_decide_eq_true (by first | (with_reducible assumption) | assumption)
                        have q103 : x3_1 < (l0.length : Int) := of_decide_eq_true (by first | (with_reducible assumption) | assumption)
                        obtain ⟨ad103, A103_3, c103_3, A103_5, c103_5, e103, hx103_0, hx103_1, hx103_2, hx103_3, hx103_4, hx103_5, hl103_3, hi103_3, hl103_5, hi103_5⟩ := at_T32 HR0.out x3_1 p103 q103
                        obtain rfl : ad101 = ad103 := (by injection e103)
                        have HR103_3 := Aside0.mk hi103_3
                        have HC103_3 := Aside0.mk hl103_3
                        clear hi103_3 hl103_3
                        have HR103_5 := Aside0.mk hi103_5
                        have HC103_5 := Aside0.mk hl103_5
                        clear hi103_5 hl103_5
                        replace p103 := eq_true p103
                        replace q103 := eq_true q103
                        have ea_ := Option.some.inj (hx101_3.symm.trans hx103_3)
                        injection ea_ with ea_ en_ ec_
                        subst ea_
                        subst ec_
                        clear en_
                        have ea_ := Option.some.inj (hx101_5.symm.trans hx103_5)
                        injection ea_ with ea_ en_ ec_
                        subst ea_
                        subst ec_
                        clear en_
                        have p104 : 0 ≤ (x3_1 : Int) := of_decide_eq_true (by first | (with_reducible assumption) | assumption)
                        have q104 : x3_1 < (l0.length : Int) := of_decide_eq_true (by first | (with_reducible assumption) | assumption)
                        obtain ⟨ad104, A104_3, c104_3, A104_5, c104_5, e104, hx104_0, hx104_1, hx104_2, hx104_3, hx104_4, hx104_5, hl104_3, hi104_3, hl104_5, hi104_5⟩ := at_T32 HR0.out x3_1 p104 q104
                        obtain rfl : ad101 = ad104 := (by injection e104)
                        have HR104_3 := Aside0.mk hi104_3
                        have HC104_3 := Aside0.mk hl104_3
                        clear hi104_3 hl104_3
                        have HR104_5 := Aside0.mk hi104_5
                        have HC104_5 := Aside0.mk hl104_5
                        clear hi104_5 hl104_5
                        replace p104 := eq_true p104
                        replace q104 := eq_true q104
                        have ea_ := Option.some.inj (hx101_3.symm.trans hx104_3)
                        injection ea_ with ea_ en_ ec_
                        subst ea_
                        subst ec_
                        clear en_
                        have ea_ := Option.some.inj (hx101_5.symm.trans hx104_5)
                        injection ea_ with ea_ en_ ec_
                        subst ea_
                        subst ec_
                        clear en_
                        go_wp2
                        go_ret
                        exact ⟨by first | rfl | (simp; done) | (simp [*]; done), by repeat (first | exact Drawn0.refl _ | apply Drawn0.step)⟩
                      · rw [if_neg c10] at H
                        have c10b0 : decide (100 < (((rd_T32 l0 x3_1).f2).size : Int)) = false := decide_eq_false c10
                        have c10b1 : decide (100 < ((rd_T32 l0 x3_1).f2).size) = false := decide_eq_false (by omega)
                        clear c10
                        have H' := Aside0.mk H
                        clear H
                        have p101 : 0 ≤ (x3_1 : Int) := of_decide_eq_true (by first | (with_reducible assumption) | assumption)
                        have q101 : x3_1 < (l0.length : Int) := of_decide_eq_true (by first | (with_reducible assumption) | assumption)
                        obtain ⟨ad101, A101_3, c101_3, A101_5, c101_5, e101, hx101_0, hx101_1, hx101_2, hx101_3, hx101_4, hx101_5, hl101_3, hi101_3, hl101_5, hi101_5⟩ := at_T32 HR0.out x3_1 p101 q101
                        cases e101
                        have HR101_3 := Aside0.mk hi101_3
                        have HC101_3 := Aside0.mk hl101_3
                        clear hi101_3 hl101_3
                        have HR101_5 := Aside0.mk hi101_5
                        have HC101_5 := Aside0.mk hl101_5
                        clear hi101_5 hl101_5
                        replace p101 := eq_true p101
                        replace q101 := eq_true q101
                        have p102 : 0 ≤ (x3_1 : Int) := of_decide_eq_true (by first | (with_reducible assumption) | assumption)
                        have q102 : x3_1 < (l0.length : Int) := of_decide_eq_true (by first | (with_reducible assumption) | assumption)
                        obtain ⟨ad102, A102_3, c102_3, A102_5, c102_5, e102, hx102_0, hx102_1, hx102_2, hx102_3, hx102_4, hx102_5, hl102_3, hi102_3, hl102_5, hi102_5⟩ := at_T32 HR0.out x3_1 p102 q102
                        obtain rfl : ad101 = ad102 := (by injection e102)
                        have HR102_3 := Aside0.mk hi102_3
                        have HC102_3 := Aside0.mk hl102_3
                        clear hi102_3 hl102_3
                        have HR102_5 := Aside0.mk hi102_5
                        have HC102_5 := Aside0.mk hl102_5
                        clear hi102_5 hl102_5
                        replace p102 := eq_true p102
                        replace q102 := eq_true q102
                        have ea_ := Option.some.inj (hx101_3.symm.trans hx102_3)
                        injection ea_ with ea_ en_ ec_
                        subst ea_
                        subst ec_
                        clear en_
                        have ea_ := Option.some.inj (hx101_5.symm.trans hx102_5)
                        injection ea_ with ea_ en_ ec_
                        subst ea_
                        subst ec_
                        clear en_
                        have p103 : 0 ≤ (x3_1 : Int) := of_decide_eq_true (by first | (with_reducible assumption) | assumption)
                        have q103 : x3_1 < (l0.length : Int) := of_decide_eq_true (by first | (with_reducible assumption) | assumption)
                        obtain ⟨ad103, A103_3, c103_3, A103_5, c103_5, e103, hx103_0, hx103_1, hx103_2, hx103_3, hx103_4, hx103_5, hl103_3, hi103_3, hl103_5, hi103_5⟩ := at_T32 HR0.out x3_1 p103 q103
                        obtain rfl : ad101 = ad103 := (by injection e103)
                        have HR103_3 := Aside0.mk hi103_3
                        have HC103_3 := Aside0.mk hl103_3
                        clear hi103_3 hl103_3
                        have HR103_5 := Aside0.mk hi103_5
                        have HC103_5 := Aside0.mk hl103_5
                        clear hi103_5 hl103_5
                        replace p103 := eq_true p103
                        replace q103 := eq_true q103
                        have ea_ := Option.some.inj (hx101_3.symm.trans hx103_3)
                        injection ea_ with ea_ en_ ec_
                        subst ea_
                        subst ec_
                        clear en_
                        have ea_ := Option.some.inj (hx101_5.symm.trans hx103_5)
                        injection ea_ with ea_ en_ ec_
                        subst ea_
                        subst ec_
                        clear en_
                        have p104 : 0 ≤ (x3_1 : Int) := of_decide_eq_true (by first | (with_reducible assumption) | assumption)
                        have q104 : x3_1 < (l0.length : Int) := of_decide_eq_true (by first | (with_reducible assumption) | assumption)
                        obtain ⟨ad104, A104_3, c104_3, A104_5, c104_5, e104, hx104_0, hx104_1, hx104_2, hx104_3, hx104_4, hx104_5, hl104_3, hi104_3, hl104_5, hi104_5⟩ := at_T32 HR0.out x3_1 p104 q104
                        obtain rfl : ad101 = ad104 := (by injection e104)
                        have HR104_3 := Aside0.mk hi104_3
                        have HC104_3 := Aside0.mk hl104_3
                        clear hi104_3 hl104_3
                        have HR104_5 := Aside0.mk hi104_5
                        have HC104_5 := Aside0.mk hl104_5
                        clear hi104_5 hl104_5
                        replace p104 := eq_true p104
                        replace q104 := eq_true q104
                        have ea_ := Option.some.inj (hx101_3.symm.trans hx104_3)
                        injection ea_ with ea_ en_ ec_
                        subst ea_
                        subst ec_
                        clear en_
                        have ea_ := Option.some.inj (hx101_5.symm.trans hx104_5)
                        injection ea_ with ea_ en_ ec_
                        subst ea_
                        subst ec_
                        clear en_
                        go_wp2
                        go_roundg kj1
                        case measure => have := HK1.out; have := HJ1.out; omega
                        case rel => exact ⟨(wrap64 (x3_1 + 1)), (by first | rfl | (simp; done) | (simp [*]; done)), H', ⟨by have := HK1.out; have := HJ1.out; omega⟩, by repeat (first | exact Drawn0.refl _ | apply Drawn0.step)⟩
              · rw [if_neg c6] at H
                exact absurd H (by simp)
            · rw [if_neg c5] at H
              exact absurd H (by simp)
          · replace c4 := Bool.eq_false_iff.mpr c4
            subst c4
            have H1 : (some (decide ((l0.length : Int) > 60))) = some r := by rw [if_neg (show ¬ (false = true) by decide)] at H; exact H
            clear H
            have H := H1
            clear H1
            obtain rfl := Option.some.inj H
            go_wp2
            go_ret
            exact ⟨by first | rfl | (simp; done) | (simp [*]; done), by repeat (first | exact Drawn0.refl _ | apply Drawn0.step)⟩

-- NOT PRINTED: function 8 (disk_New)

-- NOT PRINTED: function 41 (slices_AppendSeq_string_string)

-- NOT PRINTED: function 38 (slices_Collect_string)

/-! ### cmp_isNaN_string: function 60 -/
def cmp_isNaN_string.f (a0 : ByteArray) : Option (Bool) := some (a0.toList != a0.toList)
set_option maxHeartbeats 8000000 in
set_option maxRecDepth 100000 in
theorem cmp_isNaN_string.calls (a0 : ByteArray) (r : Bool) (w : World) (h : cmp_isNaN_string.f a0 = some r) :
    Calls Try.prog 60 #[.string a0] w fun e w' => e = .returned (.bool r) ∧ Drawn0 w w' := by
  have H : (some (a0.toList != a0.toList)) = some r := h
  clear h
  obtain rfl := Option.some.inj H
  go_enter Try.func60, Try.ntmps60
  go_wp2
  go_ret
  exact ⟨by first | rfl | (simp; done) | (simp [*]; done), by repeat (first | exact Drawn0.refl _ | apply Drawn0.step)⟩

/-! ### cmp_Less_string: function 50 -/
def cmp_Less_string.f (a0 : ByteArray) (a1 : ByteArray) : Option (Bool) := (cmp_isNaN_string.f a0).bind fun t105 => (if t105 = true then ((cmp_isNaN_string.f a1).bind fun t106 => (if t106 = true then (some (Op.bytesLess a0.toList a1.toList)) else (some true))) else (some (Op.bytesLess a0.toList a1.toList)))
set_option maxHeartbeats 8000000 in
set_option maxRecDepth 100000 in
theorem cmp_Less_string.calls (a0 : ByteArray) (a1 : ByteArray) (r : Bool) (w : World) (h : cmp_Less_string.f a0 a1 = some r) :
    Calls Try.prog 50 #[.string a0, .string a1] w fun e w' => e = .returned (.bool r) ∧ Drawn0 w w' := by
  have H : ((cmp_isNaN_string.f a0).bind fun t105 => (if t105 = true then ((cmp_isNaN_string.f a1).bind fun t106 => (if t106 = true then (some (Op.bytesLess a0.toList a1.toList)) else (some true))) else (some (Op.bytesLess a0.toList a1.toList)))) = some r := h
  clear h
  replace H := Option.bind_eq_some_iff.mp H
  obtain ⟨t105, A30, H⟩ := H
  replace H : (if t105 = true then ((cmp_isNaN_string.f a1).bind fun t106 => (if t106 = true then (some (Op.bytesLess a0.toList a1.toList)) else (some true))) else (some (Op.bytesLess a0.toList a1.toList))) = some r := H
  have A3 := Aside0.mk A30
  clear A30
  by_cases c4 : t105 = true
  · subst c4
    have H1 : ((cmp_isNaN_string.f a1).bind fun t106 => (if t106 = true then (some (Op.bytesLess a0.toList a1.toList)) else (some true))) = some r := by rw [if_pos rfl] at H; exact H
    clear H
    have H := H1
    clear H1
    replace H := Option.bind_eq_some_iff.mp H
    obtain ⟨t106, A50, H⟩ := H
    replace H : (if t106 = true then (some (Op.bytesLess a0.toList a1.toList)) else (some true)) = some r := H
    have A5 := Aside0.mk A50
    clear A50
    by_cases c6 : t106 = true
    · subst c6
      have H1 : (some (Op.bytesLess a0.toList a1.toList)) = some r := by rw [if_pos rfl] at H; exact H
      clear H
      have H := H1
      clear H1
      obtain rfl := Option.some.inj H
      go_enter Try.func50, Try.ntmps50
      go_wp2_with (first | ((with_reducible refine gate_callee (f := 60) rfl ?_); refine goesL_ (some 6) rfl rfl Try.func60 (by kernel_rfl) rfl #[.string a0] rfl (by (try simp only [List.map_toArray, List.map_cons, List.map_nil]); first | done | rfl | (simp only [List.length_drop, List.length_take]; rfl)) ?_; (with_reducible refine (cmp_isNaN_string.calls a0 true _ A3.out).mono ?_); rintro e w' ⟨rfl, ⟨nd, rfl⟩⟩; refine ⟨_, rfl, ?_⟩) | (go_at_call 60; (with_reducible refine (cmp_isNaN_string.calls a1 true _ A5.out).mono ?_); rintro e w' ⟨rfl, ⟨nd, rfl⟩⟩))
      go_ret
      exact ⟨by first | rfl | (simp; done) | (simp [*]; done), by repeat (first | exact Drawn0.refl _ | apply Drawn0.step)⟩
    · replace c6 := Bool.eq_false_iff.mpr c6
      subst c6
      have H1 : (some true) = some r := by rw [if_neg (show ¬ (false = true) by decide)] at H; exact H
      clear H
      have H := H1
      clear H1
      obtain rfl := Option.some.inj H
      go_enter Try.func50, Try.ntmps50
      go_wp2_with (first | ((with_reducible refine gate_callee (f := 60) rfl ?_); refine goesL_ (some 6) rfl rfl Try.func60 (by kernel_rfl) rfl #[.string a0] rfl (by (try simp only [List.map_toArray, List.map_cons, List.map_nil]); first | done | rfl | (simp only [List.length_drop, List.length_take]; rfl)) ?_; (with_reducible refine (cmp_isNaN_string.calls a0 true _ A3.out).mono ?_); rintro e w' ⟨rfl, ⟨nd, rfl⟩⟩; refine ⟨_, rfl, ?_⟩) | (go_at_call 60; (with_reducible refine (cmp_isNaN_string.calls a1 false _ A5.out).mono ?_); rintro e w' ⟨rfl, ⟨nd, rfl⟩⟩))
      go_ret
      exact ⟨by first | rfl | (simp; done) | (simp [*]; done), by repeat (first | exact Drawn0.refl _ | apply Drawn0.step)⟩
  · replace c4 := Bool.eq_false_iff.mpr c4
    subst c4
    have H1 : (some (Op.bytesLess a0.toList a1.toList)) = some r := by rw [if_neg (show ¬ (false = true) by decide)] at H; exact H
    clear H
    have H := H1
    clear H1
    obtain rfl := Option.some.inj H
    go_enter Try.func50, Try.ntmps50
    go_wp2_with (first | ((with_reducible refine gate_callee (f := 60) rfl ?_); refine goesL_ (some 6) rfl rfl Try.func60 (by kernel_rfl) rfl #[.string a0] rfl (by (try simp only [List.map_toArray, List.map_cons, List.map_nil]); first | done | rfl | (simp only [List.length_drop, List.length_take]; rfl)) ?_; (with_reducible refine (cmp_isNaN_string.calls a0 false _ A3.out).mono ?_); rintro e w' ⟨rfl, ⟨nd, rfl⟩⟩; refine ⟨_, rfl, ?_⟩))
    go_ret
    exact ⟨by first | rfl | (simp; done) | (simp [*]; done), by repeat (first | exact Drawn0.refl _ | apply Drawn0.step)⟩

end Go.Proofs.Ytajgimacecjnkaa.PDiskRoom
