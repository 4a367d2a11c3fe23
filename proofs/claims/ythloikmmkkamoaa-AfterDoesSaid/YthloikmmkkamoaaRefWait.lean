/- The document's own list: the contracts of Waiting and Fire. -/
import Derived.Test.YthloikmmkkamoaaRef
namespace Go.Proofs.Ythloikmmkkamoaa
open Go.RowKit Go.Maps

def waitTo (rows : List Reg) (x : Int) (k : Nat) : List Int :=
  ((List.range k).filter fun i => (rows.getD i default).on == x && (rows.getD i default).state == 1).map fun i : Nat => (i : Int)
theorem waitTo_snoc (rows : List Reg) (x : Int) (k : Nat) : waitTo rows x (k + 1) = waitTo rows x k ++ (if (rows.getD k default).on == x && (rows.getD k default).state == 1 then [(k : Int)] else []) := by
  unfold waitTo
  rw [List.range_succ, List.filter_append, List.map_append]
  congr 1
  simp only [List.filter_cons, List.filter_nil]
  split <;> simp
theorem waitTo_len (rows : List Reg) (x : Int) (k : Nat) : (waitTo rows x k).length ≤ k := by
  unfold waitTo
  rw [List.length_map]
  exact Nat.le_trans (List.length_filter_le _ _) (by simp)

set_option maxRecDepth 20000 in
set_option maxHeartbeats 800000 in
theorem rwaiting {w : World} {F : Nat → Prop} {rb : Nat} {rows : List Reg} {most x : Int} (h : RList w F rb rows most) (hlen : rows.length ≤ 200) :
    Calls Try.prog 19 #[.pointer (some ⟨rb, 0, none⟩), .int .i64 x] w (RetFresh 3 1 (waiting rows x).length (ints (waiting rows x)) w) := by
  obtain ⟨j0, hy, hy0, hy1, hy2⟩ := info_parts Try.info3
  obtain ⟨rv, h⟩ := h
  obtain ⟨A, c, rfl, _, _⟩ := own_form h.rws
  have C0 := Lib.hid h.c0
  have HR := Lib.hid h.rws
  have HLT := Lib.hid h.lt
  clear h
  obtain ⟨len, hk⟩ : ∃ k, k = rows.length := ⟨_, rfl⟩
  have HK := Lib.hid hk
  rw [← hk] at C0 hlen
  clear hk
  go_enter Try.func19, Try.ntmps19
  go_wp2_with fail
  go_loopw [5, 6] (fun v i wr => ∃ k : Nat, k ≤ len ∧ i = .int .i64 k ∧ Hid (wr.ownsRow w.heap.size 3 1 v (waitTo rows x k).length (ints (waitTo rows x k))) ∧ Hid (Turn nowhere w wr)) (fun _ i _ => len - (intOf i).toNat)
  case atStart => exact ⟨0, Nat.zero_le _, rfl, World.ownsRow_lit (base := w.heap.size) (size := 1) (e := 3) w #[] 0 (Nat.le_refl _) (by simp [maxLen]) rfl, (Turn.refl _ _).alloc _⟩
  case round =>
    obtain ⟨k, hk, rfl, HO, HT⟩ := hrel
    have h0 : (0 : Int) ≤ (k : Int) := by omega
    have d0 := HT.out.cell C0.out (fun h => h)
    by_cases hlt : k < len
    case pos =>
      have h1 : (k : Int) < (len : Int) := by omega
      obtain ⟨g, cap, hv, _, hg⟩ := HR.out.form (by rw [← HK.out]; omega)
      obtain ⟨rfl, rfl⟩ : A = some ⟨g, 0, none⟩ ∧ c = cap := by simpa using hv
      have HSN := Lib.hid (waitTo_snoc rows x k)
      obtain ⟨r0, _, r2⟩ := regs_at rows k (by rw [← HK.out]; exact hlt)
      have e0 := HT.out.cell ((HR.out.cellAt (k * 3) (by rw [← HK.out]; omega)).trans r0) (fun h => h)
      have e2 := HT.out.cell ((HR.out.cellAt (k * 3 + 2) (by rw [← HK.out]; omega)).trans r2) (fun h => h)
      have hwl := waitTo_len rows x k
      generalize rows.getD k default = y at e0 e2 HSN
      obtain ⟨yo, yt, ys⟩ := y
      simp only at e0 e2 HSN
      generalize waitTo rows x k = o at HO HSN hwl
      clear hv r0 r2
      by_cases hon : yo = x
      case neg =>
        have hb : (yo == x) = false := beq_eq_false_iff_ne.2 hon
        rw [hb] at HSN
        clear hon
        go_wp2
        go_roundw
        case rel => exact ⟨k + 1, by omega, by go_num, by rw [HSN.out]; simpa [Hid] using HO, HT⟩
        case measure => simp [intOf]; omega
      case pos =>
        subst hon
        by_cases hst : ys = 1
        case neg =>
          have hb : (ys == 1) = false := beq_eq_false_iff_ne.2 hst
          rw [hb] at HSN
          clear hst
          go_wp2
          go_roundw
          case rel => exact ⟨k + 1, by omega, by go_num, by rw [HSN.out]; simpa [Hid] using HO, HT⟩
          case measure => simp [intOf]; omega
        case pos =>
          subst hst
          go_wp2_with (at_builtin; refine wpList_append_own_at _ rfl (.tmp 38) (.tmp 40) 32 rfl w.heap.size 3 j0 (.int .i64 0) 1 8 Try.underlying32 hy hy0 hy1 hy2 rfl (by decide) u5 o.length (ints o) rfl ?o1 ⟨wr.heap.size, 0, none⟩ 1 1 [.int .i64 k] rfl rfl ?o2 (by simp [Value.oneCell']) ?o3 ?o4 ?o5 ?_)
          case o1 => exact HO.out.alloc _
          case o2 => exact World.news_of_block (heap_alloc_new wr (.cells #[.int .i64 k] 3))
          case o3 => unfold maxLen; omega
          case o4 => omega
          case o5 => have := HT.out.size; simp; omega
          intro v' w2 hown hg _ _
          have HO2 := Lib.hid hown
          have HT2 := Lib.hid (show Turn nowhere w w2 from (HT.out.alloc _).grown hg (fun q hq hlt => by have := (HO.out.lt q hq).1; omega))
          clear hown hg
          go_wp2
          go_roundw
          case rel =>
            refine ⟨k + 1, by omega, by go_num, ?_, HT2⟩
            rw [HSN.out]
            have e5 : ints (o ++ [(k : Int)]) = ints o ++ [.int .i64 k] := by simp
            simpa [Hid, e5] using HO2
          case measure => simp [intOf]; omega
    case neg =>
      obtain rfl : k = len := by omega
      clear hlt
      go_wp2
      go_ret
      refine ⟨_, rfl, ?_, HT.out⟩
      have : waiting rows x = waitTo rows x k := by rw [HK.out]; rfl
      rw [this]
      exact HO.out

end Go.Proofs.Ythloikmmkkamoaa
