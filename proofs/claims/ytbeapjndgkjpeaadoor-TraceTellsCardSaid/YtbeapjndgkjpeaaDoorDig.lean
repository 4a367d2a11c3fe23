/- The reference's side: contracts of digits and Number: a number's decimal numeral. -/
import Derived.Test.YtbeapjndgkjpeaaDoorLine
namespace Go.Proofs.YtbeapjndgkjpeaaDoor
open Go.RowKit Go.Maps

theorem digits_len {u : Nat} (h : u ≤ 9223372036854775808) : (Lib.decDigits u).length ≤ 21 := by
  have h1 := itoa_len (n := -(u : Int)) (by unfold i64; omega)
  unfold Lib.itoa at h1
  by_cases h0 : u = 0
  · subst h0; simp [Lib.decDigits]
  · rw [if_pos (by omega)] at h1
    have : (-(u : Int)).natAbs = u := by omega
    rw [this] at h1
    simp at h1
    omega

/-- 'string([]byte{b})'. -/
theorem byte_str (W : World) (b : UInt8) : (convert 46 9 (.slice (some ⟨W.heap.size, 0, none⟩) 1 1)).run Tryd.prog (W.alloc (.cells #[.int .u8 (b.toNat : Int)] 5)) = .ok (str [b]) (W.alloc (.cells #[.int .u8 (b.toNat : Int)] 5)) :=
  run_convert_bytes_back (P := Tryd.prog) (W.alloc (.cells #[.int .u8 (b.toNat : Int)] 5)) 46 9 5 ⟨W.heap.size, 0, none⟩ 1 [b] Tryd.underlying46 Tryd.underlying5 Tryd.underlying9 (fun j hj => by
    have h0 : j = 0 := by simpa using hj
    subst h0
    show (W.alloc (.cells #[.int .u8 (b.toNat : Int)] 5)).cell? ⟨W.heap.size, 0, none⟩ = _
    simp)

set_option maxRecDepth 20000 in
set_option maxHeartbeats 800000 in
theorem digits_small (u : Nat) (hu : u < 10) (w : World) : Calls Tryd.prog 34 #[.int .i64 (-(u : Int))] w fun e w' => e = .returned (str (Lib.decDigits u)) ∧ Turn nowhere w w' := by
  have hd : Lib.decDigits u = [UInt8.ofNat (48 + u)] := by unfold Lib.decDigits; rw [dif_pos hu]
  obtain ⟨b, hbb⟩ : ∃ b, b = UInt8.ofNat (48 + u) := ⟨_, rfl⟩
  rw [hd, ← hbb]
  have hb : (-10 : Int) < -(u : Int) := by omega
  obtain ⟨k, hk⟩ : ∃ k : Int, k = -(u : Int) := ⟨_, rfl⟩
  rw [← hk] at hb ⊢
  have hcv : (convert 46 9 (.slice (some ⟨w.heap.size, 0, none⟩) 1 1)).run Tryd.prog (w.alloc (.cells #[.int .u8 (wrap64 (48 - k) % 256)] 5)) = .ok (str [b]) (w.alloc (.cells #[.int .u8 (wrap64 (48 - k) % 256)] 5)) := by
    have hv : wrap64 (48 - k) % 256 = (b.toNat : Int) := by
      rw [hbb, UInt8.toNat_ofNat', hk]
      unfold wrap64
      omega
    rw [hv]
    exact byte_str w _
  clear hd hk hbb
  go_enter Tryd.func34, Tryd.ntmps34
  go_wp2
  go_ret
  exact ⟨rfl, (Turn.refl _ _).alloc _⟩

set_option maxRecDepth 20000 in
set_option maxHeartbeats 800000 in
theorem digits_calls (u : Nat) : ∀ (_ : u ≤ 9223372036854775808) (w : World), Calls Tryd.prog 34 #[.int .i64 (-(u : Int))] w fun e w' => e = .returned (str (Lib.decDigits u)) ∧ Turn nowhere w w' := by
  induction u using Nat.strongRecOn with
  | ind u ih =>
    intro hu w
    by_cases h10 : u < 10
    · exact digits_small u h10 w
    · have hd : Lib.decDigits u = Lib.decDigits (u / 10) ++ Lib.decDigits (u % 10) := by
        conv => lhs; unfold Lib.decDigits
        rw [dif_neg h10]
        conv => rhs; rhs; unfold Lib.decDigits
        rw [dif_pos (by omega)]
      have c1 := Lib.hid (ih (u / 10) (by omega) (by omega))
      have c2 := Lib.hid (ih (u % 10) (by omega) (by omega))
      have l1 := digits_len (u := u / 10) (by omega)
      have l2 := digits_len (u := u % 10) (by omega)
      have hb : ¬ (-10 : Int) < -(u : Int) := by omega
      have hadd := fun w => add_run (Lib.decDigits (u / 10)) (Lib.decDigits (u % 10)) (by omega) (by omega) w
      rw [← hd] at hadd
      clear ih hd
      generalize Lib.decDigits u = D at hadd ⊢
      go_enter Tryd.func34, Tryd.ntmps34
      go_wp2_with fail
      rw [show (-((u : Int) / 10)) = -((u / 10 : Nat) : Int) from by omega]
      refine (c1.out w).mono ?_
      rintro e w1 ⟨rfl, ht⟩
      have HT1 := Lib.hid ht
      clear ht c1
      generalize Lib.decDigits (u / 10) = D1 at hadd ⊢
      go_wp2_with fail
      rw [show (-((u : Int) % 10)) = -((u % 10 : Nat) : Int) from by omega]
      refine (c2.out w1).mono ?_
      rintro e w2 ⟨rfl, ht⟩
      have HT2 := Lib.hid (HT1.out.trans ht (fun _ _ h => h))
      clear ht c2
      generalize Lib.decDigits (u % 10) = D2 at hadd ⊢
      go_wp2
      go_ret
      exact ⟨rfl, HT2.out⟩

set_option maxRecDepth 20000 in
set_option maxHeartbeats 800000 in
theorem number_of (n : Int) (hn : i64 n) (w : World) : Calls Tryd.prog 24 #[.int .i64 n] w fun e w' => e = .returned (str (Lib.itoa n)) ∧ Turn nowhere w w' := by
  unfold Lib.itoa
  by_cases h : n < 0
  · rw [if_pos h]
    have c := Lib.hid (digits_calls n.natAbs (by unfold i64 at hn; omega) w)
    have hl := digits_len (u := n.natAbs) (by unfold i64 at hn; omega)
    have hadd := fun w => add_run [45] (Lib.decDigits n.natAbs) (by simp) (by omega) w
    obtain ⟨D, hD⟩ : ∃ D, D = Lib.decDigits n.natAbs := ⟨_, rfl⟩
    obtain ⟨D2, hD2⟩ : ∃ D2, D2 = 45 :: D := ⟨_, rfl⟩
    rw [← hD] at c hadd ⊢
    rw [show [45] ++ D = D2 from hD2.symm] at hadd
    rw [← hD2]
    rw [show (-(n.natAbs : Int)) = n from by omega] at c
    clear hD hD2 hl hn
    go_enter Tryd.func24, Tryd.ntmps24
    go_wp2_with fail
    refine c.out.mono ?_
    rintro e w1 ⟨rfl, ht⟩
    have HT := Lib.hid ht
    clear ht
    go_wp2
    go_ret
    exact ⟨rfl, HT.out⟩
  · rw [if_neg h]
    have c := Lib.hid (digits_calls n.toNat (by unfold i64 at hn; omega) w)
    generalize Lib.decDigits n.toNat = D at c ⊢
    rw [show (-(n.toNat : Int)) = -n from by omega] at c
    have hw : wrap64 (-n) = -n := by unfold wrap64; unfold i64 at hn; omega
    clear hn
    go_enter Tryd.func24, Tryd.ntmps24
    go_wp2_with fail
    refine c.out.mono ?_
    rintro e w1 ⟨rfl, ht⟩
    have HT := Lib.hid ht
    clear ht
    go_wp2
    go_ret
    exact ⟨rfl, HT.out⟩

end Go.Proofs.YtbeapjndgkjpeaaDoor
