/- The reference's side: the contract of number. -/
import Derived.Test.YtbeapjndgkjpeaaDoorRLine
import Derived.Test.YtbeapjndgkjpeaaDoorRLaw
namespace Go.Proofs.YtbeapjndgkjpeaaDoor
open Go.RowKit Go.Maps

theorem byte_at (L : List UInt8) (k : Nat) (hk : k < L.length) : ((bs L)[k]'(by simpa [ByteArray.size] using hk)).toNat = (L.getD k 0).toNat := by
  show ((L.toArray)[k]'_).toNat = _
  simp [List.getD, hk]

def NumR2 (L : List UInt8) (w : World) (e : Ending) (w' : World) : Prop :=
  ∃ v ok, e = .returned (.tuple #[.int .i64 v, .bool ok]) ∧ NumberR L v ok ∧ Turn nowhere w w'

theorem numGo_at {L : List UInt8} {k : Nat} (hk : k < L.length) (n : Int) : numGo k n (L.drop k) =
    if (L.getD k 0).toNat = 45 ∧ k = 0 then numGo (k + 1) n (L.drop (k + 1))
    else if (L.getD k 0).toNat < 48 ∨ 57 < (L.getD k 0).toNat ∨ n < -922337203685477580 then none
    else numGo (k + 1) (wrap64 (10 * n - (((L.getD k 0).toNat : Int) - 48))) (L.drop (k + 1)) := by
  have hx : L.drop k = L.getD k 0 :: L.drop (k + 1) := by
    rw [List.drop_eq_getElem_cons hk]; simp [List.getD, hk]
  conv => lhs; rw [hx]
  rfl

set_option maxRecDepth 20000 in
set_option maxHeartbeats 3200000 in
theorem num_calls (L : List UInt8) (hL : L.length ≤ 1000000) (w : World) : Calls Tryd.prog 20 #[str L] w (NumR2 L w) := by
  have hsz : (bs L).size = L.length := by simp [ByteArray.size]
  have HSZ := Lib.hid hsz
  go_enter Tryd.func20, Tryd.ntmps20
  go_wp2
  go_loopg [4, 5] L.length (fun g n i wr => ∃ (k : Nat) (v : Int), g = L.length - k ∧ k ≤ L.length ∧ i = .int .i64 k ∧ n = .int .i64 v ∧ wr = w ∧ Hid (i64 v) ∧ Hid (numGo k v (L.drop k) = numGo 0 0 L))
  case atStart => exact ⟨0, 0, rfl, Nat.zero_le _, rfl, rfl, rfl, (show i64 0 from by decide), by rw [List.drop_zero]; rfl⟩
  case round =>
    obtain ⟨k, v, rfl, hk, rfl, rfl, rfl, HV, HG⟩ := hrel
    have h0 : (0 : Int) ≤ (k : Int) := by omega
    by_cases hlt : k < L.length
    case pos =>
      have h1 : (k : Int) < (L.length : Int) := by omega
      have hb := byte_at L k hlt
      have hst := numGo_at hlt v
      rw [HG.out] at hst
      have hbl : (L.getD k 0).toNat < 256 := UInt8.toNat_lt _
      generalize (L.getD k 0).toNat = b at hb hst hbl
      by_cases hm : b = 45 ∧ k = 0
      case pos =>
        rw [if_pos hm] at hst
        have HST := Lib.hid hst.symm
        obtain ⟨rfl, rfl⟩ := hm
        clear hst
        go_wp2
        go_roundg (L.length - (0 + 1))
        case rel => exact ⟨0 + 1, v, rfl, by omega, by go_num, rfl, rfl, HV, HST⟩
        case measure => omega
      case neg =>
        rw [if_neg hm] at hst
        by_cases hbad : b < 48 ∨ 57 < b ∨ v < -922337203685477580
        case pos =>
          rw [if_pos hbad] at hst
          have HST := Lib.hid hst.symm
          clear hst
          by_cases h45 : b = 45
          case pos =>
            have hk0 : ((k : Int) == 0) = false := by rw [beq_eq_false_iff_ne]; omega
            subst h45
            clear hm hbad
            go_wp2
            go_ret2
            exact ⟨0, false, rfl, number_none HST.out.symm, Turn.refl _ _⟩
          case neg =>
            have hb45 : ((b : Int) == 45) = false := by rw [beq_eq_false_iff_ne]; omega
            by_cases b1 : (b : Int) < 48
            case pos =>
              clear hm hbad h45
              go_wp2
              go_ret2
              exact ⟨0, false, rfl, number_none HST.out.symm, Turn.refl _ _⟩
            case neg =>
              by_cases b2 : (57 : Int) < (b : Int)
              case pos =>
                clear hm hbad h45
                go_wp2
                go_ret2
                exact ⟨0, false, rfl, number_none HST.out.symm, Turn.refl _ _⟩
              case neg =>
                have b3 : v < -922337203685477580 := by omega
                clear hm hbad h45
                go_wp2
                go_ret2
                exact ⟨0, false, rfl, number_none HST.out.symm, Turn.refl _ _⟩
        case neg =>
          rw [if_neg hbad] at hst
          have HST := Lib.hid hst.symm
          have hb45 : ((b : Int) == 45) = false := by rw [beq_eq_false_iff_ne]; omega
          have b1 : ¬ (b : Int) < 48 := by omega
          have b2 : ¬ (57 : Int) < (b : Int) := by omega
          have b3 : ¬ v < -922337203685477580 := by omega
          clear hst hbad hm
          go_wp2
          go_roundg (L.length - (k + 1))
          case rel => exact ⟨k + 1, wrap64 (10 * v - ((b : Int) - 48)), rfl, by omega, by go_num, by congr 1; unfold wrap64; omega, rfl, wrap_i64 _, HST⟩
          case measure => omega
    case neg =>
      obtain rfl : k = L.length := by omega
      have hfin : numGo 0 0 L = some v := by rw [← HG.out, List.drop_length]; rfl
      have HF := Lib.hid hfin
      clear hfin
      by_cases hp : plain L = true
      case pos =>
        have hne : 0 < L.length := by
          cases L with
          | nil => cases hp
          | cons b r => simp
        have hb := byte_at L 0 hne
        have h45 : (((L.getD 0 0).toNat : Int) != 45) = true := by
          cases L with
          | nil => cases hp
          | cons b r => simp [plain] at hp ⊢; omega
        have h1 : (0 : Int) < (L.length : Int) := by omega
        have HP := Lib.hid hp
        generalize (L.getD 0 0).toNat = b at hb h45
        clear hp
        go_wp2_with fail
        refine (number_of (wrap64 (-v)) (wrap_i64 _) _).mono ?_
        rintro e w1 ⟨rfl, ht⟩
        have HT := Lib.hid ht
        clear ht
        go_wp2
        go_ret2
        refine ⟨wrap64 (-v), _, rfl, ?_, HT.out⟩
        have h := number_some HV.out HF.out (Lib.itoa (wrap64 (-v)) == L) (by rw [HP.out]; simp)
        rw [HP.out] at h
        exact h
      case neg =>
        have HP := Lib.hid (show plain L = false from by simpa using hp)
        clear hp
        by_cases h0 : L.length = 0
        case pos =>
          have h1 : ¬ (0 : Int) < (L.length : Int) := by omega
          go_wp2_with fail
          refine (number_of v HV.out _).mono ?_
          rintro e w1 ⟨rfl, ht⟩
          have HT := Lib.hid ht
          clear ht
          go_wp2
          go_ret2
          refine ⟨v, _, rfl, ?_, HT.out⟩
          have h := number_some HV.out HF.out (Lib.itoa v == L) (by rw [HP.out]; simp)
          rw [HP.out] at h
          exact h
        case neg =>
          have hb := byte_at L 0 (by omega)
          have h45 : (((L.getD 0 0).toNat : Int) != 45) = false := by
            have := HP.out
            cases L with
            | nil => simp at h0
            | cons b r => simp [plain] at this ⊢; omega
          have h1 : (0 : Int) < (L.length : Int) := by omega
          generalize (L.getD 0 0).toNat = b at hb h45
          go_wp2_with fail
          refine (number_of v HV.out _).mono ?_
          rintro e w1 ⟨rfl, ht⟩
          have HT := Lib.hid ht
          clear ht
          go_wp2
          go_ret2
          refine ⟨v, _, rfl, ?_, HT.out⟩
          have h := number_some HV.out HF.out (Lib.itoa v == L) (by rw [HP.out]; simp)
          rw [HP.out] at h
          exact h

end Go.Proofs.YtbeapjndgkjpeaaDoor
