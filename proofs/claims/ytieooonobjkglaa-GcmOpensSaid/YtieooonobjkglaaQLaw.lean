/- The walk of law GcmOpens. -/
import Derived.Test.YtieooonobjkglaaQRef
import Derived.Test.YtieooonobjkglaaQLawB
namespace Go.Proofs.Ytieooonobjkglaa
open Go Go.Proofs Go.RowKit Go.Shelf SW
set_option maxRecDepth 100000
set_option maxHeartbeats 4000000
namespace Rw
/-- What lies behind the cut: the program's Open says 'bad'. -/
theorem opens_bad (a0 a1 a2 a3 h s : ByteArray) (w0 : a0.size ≤ maxLen) (w1 : a1.size ≤ maxLen) (w2 : a2.size ≤ maxLen) (w3 : a3.size ≤ maxLen)
    (hcase : (a2.size ≤ 4096 ∧ a3.size ≤ 4112 ∧ h = cut70 a2 ∧ s = a3.extract 0 (min a3.size 90)) ∨ (¬ (a2.size ≤ 4096 ∧ a3.size ≤ 4112) ∧ h = a2 ∧ s = a3))
    (hbad : ¬ ((((cut70 a0).size = 16 ∨ (cut70 a0).size = 32) ∧ (cut70 a1).size = 12) ∧ h.size ≤ 4096 ∧ 16 ≤ s.size ∧ s.size ≤ 4112)) (w : World) :
    Calls Try.prog 3 #[.string a0, .string a1, .string a2, .string a3] w fun e w' => e = .returned (.bool true) ∧ Below w.heap.size w w' := by
  have h3 := w3
  unfold maxLen at h3
  have hsz : s.size ≤ 9223372036854775807 := by
    rcases hcase with ⟨_, _, _, e⟩ | ⟨_, _, e⟩
    · rw [e]; simp; omega
    · rw [e]; omega
  have C0 : Hid (∀ w, Calls Try.prog 11 #[.string (cut70 a0), .string (cut70 a1), .string h, .string s] w fun e w' => e = .returned (.tuple #[.string ⟨#[]⟩, .int .i64 4]) ∧ Below w.heap.size w w') := by
    exact fun w => open_bad _ _ _ _ hsz hbad w
  obtain ⟨b, hb⟩ : ∃ b : Bool, (((cut70 a0).size = 16 ∨ (cut70 a0).size = 32) ∧ (cut70 a1).size = 12) = (b = true) := by
    by_cases hp : ((cut70 a0).size = 16 ∨ (cut70 a0).size = 32) ∧ (cut70 a1).size = 12
    · exact ⟨true, by simp [hp]⟩
    · exact ⟨false, by simp [hp]⟩
  have CM : Hid (∀ w, Calls Try.prog 12 #[.string (cut70 a0), .string (cut70 a1)] w fun e w' => e = .returned (.bool b) ∧ Below w.heap.size w w') := by exact rmay_any _ _ b hb
  have hne : ((⟨#[]⟩ : ByteArray).toList == (⟨#[]⟩ : ByteArray).toList) = true := by simp
  rw [hb] at hbad
  clear hb
  rcases hcase with ⟨c1, c2, rfl, rfl⟩ | ⟨c, rfl, rfl⟩
  · have hm : min (a3.size : Int) 90 = ((min a3.size 90 : Nat) : Int) := by omega
    have hsl : ∀ W, (Instr.slice 9 (.string a3) none (some (.int .i64 ((min a3.size 90 : Nat) : Int))) none).run Try.prog W = .ok (.string (a3.extract 0 (min a3.size 90))) W := fun W => by
      rw [run_slice_string_h (ht := Try.underlying9) (h0 := by omega) (h2 := by omega)]
      rfl
    have hs90 : (a3.extract 0 (min a3.size 90)).size ≤ 90 := by simp; omega
    have hh70 := cut70_size a2
    have d1 : decide ((a2.size : Int) ≤ 4096) = true := by simp; omega
    have d2 : decide ((a3.size : Int) ≤ 4112) = true := by simp; omega
    have d3 : decide (((cut70 a2).size : Int) > 4096) = false := by simp; omega
    have d4 : decide (((a3.extract 0 (min a3.size 90)).size : Int) > 4112) = false := by simp only [decide_eq_false_iff_not]; omega
    have d5 : b = true → decide (((a3.extract 0 (min a3.size 90)).size : Int) < 16) = true := fun e => by
      have : ¬ 16 ≤ (a3.extract 0 (min a3.size 90)).size := fun x => hbad ⟨e, by omega, x, by omega⟩
      simp only [decide_eq_true_eq]; omega
    clear c1 c2 hbad hh70 hs90 h3 hsz
    generalize a3.extract 0 (min a3.size 90) = s at hsl C0 d4 d5
    generalize hn : min a3.size 90 = n at *
    have HN := Lib.hid hn
    clear hn
    cases b with
    | true =>
      have d6 := d5 rfl
      clear d5
      go_enter Try.func3, Try.ntmps3
      go_wp2_with (go_at_call 10; refine (cut_any _ (by assumption) _).mono ?_; rintro e w' ⟨rfl, rfl⟩)
      go_quiet ((go_at_call 10; exact Calls.quiet_of_same ((cut_any _ (by assumption) _).mono fun _ _ h => ⟨h.1, h.2.symm⟩)))
      go_wp2_with (first
        | (go_at_call 11; refine (C0.out _).mono ?_; rintro e w1 ⟨rfl, hk1⟩)
        | (go_at_call 12; refine (CM.out _).mono ?_; rintro e w2 ⟨rfl, hk2⟩)
        | (go_at_call 13; refine (alive8_any _).mono ?_; rintro e w3 ⟨rfl, hk3⟩))
      go_ret
      exact ⟨rfl, Below.callee (Below.callee (Below.callee (below_dn _ _) hk1) hk2) hk3⟩
    | false =>
      clear d5
      go_enter Try.func3, Try.ntmps3
      go_wp2_with (go_at_call 10; refine (cut_any _ (by assumption) _).mono ?_; rintro e w' ⟨rfl, rfl⟩)
      go_quiet ((go_at_call 10; exact Calls.quiet_of_same ((cut_any _ (by assumption) _).mono fun _ _ h => ⟨h.1, h.2.symm⟩)))
      go_wp2_with (first
        | (go_at_call 11; refine (C0.out _).mono ?_; rintro e w1 ⟨rfl, hk1⟩)
        | (go_at_call 12; refine (CM.out _).mono ?_; rintro e w2 ⟨rfl, hk2⟩)
        | (go_at_call 13; refine (alive8_any _).mono ?_; rintro e w3 ⟨rfl, hk3⟩))
      go_ret
      exact ⟨rfl, Below.callee (Below.callee (Below.callee (below_dn _ _) hk1) hk2) hk3⟩
  · have cc : (decide ((h.size : Int) ≤ 4096) = false ∧ decide ((h.size : Int) > 4096) = true) ∨ (decide ((h.size : Int) ≤ 4096) = true ∧ decide ((h.size : Int) > 4096) = false ∧ decide ((s.size : Int) ≤ 4112) = false ∧ decide ((s.size : Int) > 4112) = true) := by
      by_cases x : h.size ≤ 4096
      · have y : ¬ s.size ≤ 4112 := fun e => c ⟨x, e⟩
        right; simp; omega
      · left; simp; omega
    clear c hbad h3 hsz
    rcases cc with ⟨d1, d2⟩ | ⟨d1, d2, d3, d4⟩ <;> cases b
    all_goals
      go_enter Try.func3, Try.ntmps3
      go_wp2_with (first
        | (go_at_call 10; refine (cut_any _ (by assumption) _).mono ?_; rintro e w' ⟨rfl, rfl⟩)
        | (go_at_call 11; refine (C0.out _).mono ?_; rintro e w1 ⟨rfl, hk1⟩)
        | (go_at_call 12; refine (CM.out _).mono ?_; rintro e w2 ⟨rfl, hk2⟩)
        | (go_at_call 13; refine (alive8_any _).mono ?_; rintro e w3 ⟨rfl, hk3⟩))
      go_ret
      exact ⟨rfl, Below.callee (Below.callee hk1 hk2) hk3⟩
end Rw
end Go.Proofs.Ytieooonobjkglaa
namespace Go.Proofs.Ytieooonobjkglaa
open Go Go.Proofs Go.RowKit Go.Shelf SW
set_option maxRecDepth 100000
set_option maxHeartbeats 4000000
namespace Rw
theorem opens_same (a0 a1 a2 a3 h s : ByteArray) (w0 : a0.size ≤ maxLen) (w1 : a1.size ≤ maxLen) (w2 : a2.size ≤ maxLen) (w3 : a3.size ≤ maxLen)
    (c1 : a2.size ≤ 4096) (c2 : a3.size ≤ 4112) (hh : h = cut70 a2) (hs : s = a3.extract 0 (min a3.size 90)) (hs16 : 16 ≤ s.size)
    (hr : ((cut70 a0).size = 16 ∨ (cut70 a0).size = 32) ∧ (cut70 a1).size = 12)
    (x : ByteArray) (is : Bool) (c : Int) (hic : (is = true ∧ c = 0) ∨ (is = false ∧ c = 5))
    (C0 : Hid (∀ w, Calls Try.prog 11 #[.string (cut70 a0), .string (cut70 a1), .string h, .string s] w fun e w' => e = .returned (.tuple #[.string x, .int .i64 c]) ∧ Below w.heap.size w w'))
    (CR : Hid (∀ w, Calls Try.prog 14 #[.string (cut70 a0), .string (cut70 a1), .string h, .string s] w fun e w' => e = .returned (.agg #[.string x, .bool is]) ∧ Below w.heap.size w w')) (w : World) :
    Calls Try.prog 3 #[.string a0, .string a1, .string a2, .string a3] w fun e w' => e = .returned (.bool true) ∧ Below w.heap.size w w' := by
  have h3 := w3
  unfold maxLen at h3
  have CM : Hid (∀ w, Calls Try.prog 12 #[.string (cut70 a0), .string (cut70 a1)] w fun e w' => e = .returned (.bool true) ∧ Below w.heap.size w w') := by exact rmay_any _ _ true (by simp [hr])
  have hm : min (a3.size : Int) 90 = ((min a3.size 90 : Nat) : Int) := by omega
  have hsl : ∀ W, (Instr.slice 9 (.string a3) none (some (.int .i64 ((min a3.size 90 : Nat) : Int))) none).run Try.prog W = .ok (.string s) W := fun W => by
    rw [run_slice_string_h (ht := Try.underlying9) (h0 := by omega) (h2 := by omega), hs]
    rfl
  have hs90 : s.size ≤ 90 := by rw [hs]; simp; omega
  have hh70 := cut70_size a2
  have d1 : decide ((a2.size : Int) ≤ 4096) = true := by simp; omega
  have d2 : decide ((a3.size : Int) ≤ 4112) = true := by simp; omega
  have d3 : decide (((cut70 a2).size : Int) > 4096) = false := by simp; omega
  have d4 : decide ((s.size : Int) > 4112) = false := by simp only [decide_eq_false_iff_not]; omega
  have d5 : decide ((s.size : Int) < 16) = false := by simp only [decide_eq_false_iff_not]; omega
  subst hh
  clear c1 c2 hh70 hs90 h3 hs hs16 hr
  generalize hn : min a3.size 90 = n at *
  have HN := Lib.hid hn
  clear hn
  rcases hic with ⟨rfl, rfl⟩ | ⟨rfl, rfl⟩
  all_goals
    go_enter Try.func3, Try.ntmps3
    go_wp2_with (go_at_call 10; refine (cut_any _ (by assumption) _).mono ?_; rintro e w' ⟨rfl, rfl⟩)
    go_quiet ((go_at_call 10; exact Calls.quiet_of_same ((cut_any _ (by assumption) _).mono fun _ _ h => ⟨h.1, h.2.symm⟩)))
    go_wp2_with (first
      | (go_at_call 11; refine (C0.out _).mono ?_; rintro e w1 ⟨rfl, hk1⟩)
      | (go_at_call 12; refine (CM.out _).mono ?_; rintro e w2 ⟨rfl, hk2⟩)
      | (go_at_call 14; refine (CR.out _).mono ?_; rintro e w3 ⟨rfl, hk3⟩)
      | (go_at_call 13; refine (alive8_any _).mono ?_; rintro e w6 ⟨rfl, hk6⟩; have hB6 := (Blk.new w3 _ _).callee hk6; have e0 := hB6.cell (k := 0) rfl; have e1 := hB6.cell (k := 1) rfl))
    go_ret
    exact ⟨rfl, Below.callee (Below.callee (Below.callee (Below.callee (Below.callee (below_dn _ _) hk1) hk2) hk3) ((Below.refl w3.heap.size w3).alloc (Nat.le_refl _) _)) hk6⟩
end Rw
end Go.Proofs.Ytieooonobjkglaa
namespace Go.Proofs.Ytieooonobjkglaa
open Go Go.Proofs Go.RowKit SW
namespace Rw
theorem opens_good (kk : Nat) (hk : kk = 4 ∨ kk = 8) (a0 a1 a2 a3 s : ByteArray) (w0 : a0.size ≤ maxLen) (w1 : a1.size ≤ maxLen) (w2 : a2.size ≤ maxLen) (w3 : a3.size ≤ maxLen)
    (c1 : a2.size ≤ 4096) (c2 : a3.size ≤ 4112) (hs : s = a3.extract 0 (min a3.size 90)) (hs16 : 16 ≤ s.size) (hkey : (cut70 a0).size = 4 * kk) (hn : (cut70 a1).size = 12) (w : World) :
    Calls Try.prog 3 #[.string a0, .string a1, .string a2, .string a3] w fun e w' => e = .returned (.bool true) ∧ Below w.heap.size w w' := by
  have hr : ((cut70 a0).size = 16 ∨ (cut70 a0).size = 32) ∧ (cut70 a1).size = 12 := ⟨by omega, hn⟩
  have hh := cut70_size a2
  obtain ⟨n, hn16⟩ : ∃ n, s.size = n + 16 := ⟨s.size - 16, by omega⟩
  have h90 : s.size ≤ 90 := by rw [hs]; simp; omega
  by_cases ht : Sx.tag kk (cut70 a0).data.toList (cut70 a1).data.toList (cut70 a2).data.toList (s.data.toList.take n) = s.data.toList.drop n
  · exact opens_same a0 a1 a2 a3 (cut70 a2) s w0 w1 w2 w3 c1 c2 rfl hs hs16 hr _ true 0 (.inl ⟨rfl, rfl⟩)
      (fun w => open_ok kk hk _ _ _ s n hkey hn (by omega) hn16 (by omega) w ht) (fun w => ropen_ok kk hk _ _ _ s n hkey hn (by omega) hn16 (by omega) w ht) w
  · exact opens_same a0 a1 a2 a3 (cut70 a2) s w0 w1 w2 w3 c1 c2 rfl hs hs16 hr _ false 5 (.inr ⟨rfl, rfl⟩)
      (fun w => open_auth kk hk _ _ _ s n hkey hn (by omega) hn16 (by omega) w ht) (fun w => ropen_no kk hk _ _ _ s n hkey hn (by omega) hn16 (by omega) w ht) w
end Rw
theorem gcmOpens_walk (a0 a1 a2 a3 : ByteArray) (w0 : a0.size ≤ maxLen) (w1 : a1.size ≤ maxLen) (w2 : a2.size ≤ maxLen) (w3 : a3.size ≤ maxLen) (w : World) :
    Calls Try.prog 3 #[.string a0, .string a1, .string a2, .string a3] w fun e w' => e = .returned (.bool true) ∧ Below w.heap.size w w' := by
  by_cases c : a2.size ≤ 4096 ∧ a3.size ≤ 4112
  · by_cases g : ((((cut70 a0).size = 16 ∨ (cut70 a0).size = 32) ∧ (cut70 a1).size = 12) ∧ (cut70 a2).size ≤ 4096 ∧ 16 ≤ (a3.extract 0 (min a3.size 90)).size ∧ (a3.extract 0 (min a3.size 90)).size ≤ 4112)
    · exact Rw.opens_good (if (cut70 a0).size = 16 then 4 else 8) (by split <;> simp) a0 a1 a2 a3 _ w0 w1 w2 w3 c.1 c.2 rfl g.2.2.1 (by split <;> omega) g.1.2 w
    · exact Rw.opens_bad a0 a1 a2 a3 _ _ w0 w1 w2 w3 (.inl ⟨c.1, c.2, rfl, rfl⟩) g w
  · exact Rw.opens_bad a0 a1 a2 a3 a2 a3 w0 w1 w2 w3 (.inr ⟨c, rfl, rfl⟩) (fun g => c ⟨g.2.1, g.2.2.2⟩) w
end Go.Proofs.Ytieooonobjkglaa
