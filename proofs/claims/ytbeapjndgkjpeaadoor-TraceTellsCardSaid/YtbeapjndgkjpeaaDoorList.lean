/- Contracts on lists of events: Own, Same (of lists that are the same), Count, Clone. -/
import Derived.Test.YtbeapjndgkjpeaaDoorEnv
import Derived.Deep.QuietTactic
import Derived.BigQuiet
import Derived.WalkSpells
import Derived.Deep.RegionHeld3
import Derived.Deep.DrawnRows
import Derived.Deep.RegionLaw
import Derived.StillTailTactics
import Derived.Deep.OwnRows
import Derived.Deep.CutRange
import Derived.Deep.CutBlock
namespace Go.Proofs.YtbeapjndgkjpeaaDoor
open Go.RowKit Go.Maps

theorem info_parts {k : TypeId} {z : Value} {s b : Nat} (h : (Tryd.prog.info? k).map (fun i => (i.zero, i.size, i.bytes)) = some (some z, s, b)) : ∃ i, Tryd.prog.info? k = some i ∧ i.zero = some z ∧ i.size = s ∧ i.bytes = b := by
  cases hi : Tryd.prog.info? k with
  | none => rw [hi] at h; simp at h
  | some i =>
    rw [hi] at h
    simp only [Option.map_some, Option.some.injEq, Prod.mk.injEq] at h
    exact ⟨i, rfl, h.1, h.2.1, h.2.2⟩
theorem Tryd.info36 : (Tryd.prog.info? 36).map (fun i => (i.zero, i.size, i.bytes)) = some (some (.agg #[.int .i64 0, .int .i64 0, .int .i64 0, .int .i64 0]), 4, 32) := by kernel_rfl
theorem Tryd.info23 : (Tryd.prog.info? 23).map (fun i => (i.zero, i.size, i.bytes)) = some (some (.agg #[.int .i64 0, .int .i64 0, .int .i64 0, .int .i64 0]), 4, 32) := by kernel_rfl

theorem evs_take_snoc (xs : List Ev) (k : Nat) (h : k < xs.length) : evs (xs.take (k + 1)) = evs (xs.take k) ++ (xs.getD k default).cells := by
  rw [List.take_succ_eq_append_getElem h, evs_snoc]
  simp only [List.getD, List.getElem?_eq_getElem h, Option.getD_some]

/-- What is made anew: the value owns xs from block B on; nothing that was there has turned. -/
def RetFresh (e : TypeId) (size n : Nat) (xs : List Value) (w : World) (en : Ending) (w' : World) : Prop :=
  ∃ v, en = .returned v ∧ w'.ownsRow w.heap.size e size v n xs ∧ Turn nowhere w w'

set_option maxHeartbeats 800000 in
theorem own_calls (A : Option Addr) (n c : Nat) (xs : List Ev) (w : World) (hx : Reads w 4 A n (evs xs)) (hn : n ≤ 100000) :
    Calls Tryd.prog 9 #[.slice A n c] w (RetFresh 36 4 n (evs xs) w) := by
  obtain ⟨i0, hi, hz0, hz1, hz2⟩ := info_parts Tryd.info36
  have hl : xs.length = n := by have := hx.1; rw [evs_len] at this; omega
  have HX := Lib.hid hx
  have HL := Lib.hid hl
  clear hx hl
  go_enter Tryd.func9, Tryd.ntmps9
  go_wp2
  go_loopg [3, 9] n (fun g v i wr => ∃ k : Nat, g = n - k ∧ k ≤ n ∧ i = .int .i64 k ∧ Hid (wr.ownsRow w.heap.size 36 4 v k (evs (xs.take k))) ∧ Hid (Turn nowhere w wr))
  case atStart => exact ⟨0, rfl, Nat.zero_le _, rfl, World.ownsRow_lit (base := w.heap.size) (size := 4) (e := 36) w #[] 0 (Nat.le_refl _) (by simp [maxLen]) rfl, (Turn.refl _ _).alloc _⟩
  case round =>
    obtain ⟨k, rfl, hk, rfl, HO, HT⟩ := hrel
    have h0 : (0 : Int) ≤ (k : Int) := by omega
    by_cases hlt : k < n
    · have h1 : (k : Int) < (n : Int) := by omega
      obtain ⟨b, off, rfl, hx⟩ := HX.out.ev (by omega)
      have ha := (hx k hlt).turn HT.out (fun h => h)
      clear hx
      have HS := Lib.hid (evs_take_snoc xs k (by rw [HL.out]; exact hlt))
      generalize xs.getD k default = y at ha HS
      obtain ⟨y0, y1, y2, y3⟩ := y
      obtain ⟨a0, a1, a2, a3⟩ := ha
      simp only at a0 a1 a2 a3
      go_wp2_with (at_builtin; refine wpList_append_own_at _ rfl (.tmp 13) (.tmp 15) 30 rfl w.heap.size 36 i0 (.agg #[.int .i64 0, .int .i64 0, .int .i64 0, .int .i64 0]) 4 32 Tryd.underlying30 hi hz0 hz1 hz2 rfl (by decide) u3 k (evs (xs.take k)) rfl ?o1 ⟨wr.heap.size + 1, 0, none⟩ 1 1 [.int .i64 y0, .int .i64 y1, .int .i64 y2, .int .i64 y3] rfl rfl ?o2 ?o3 ?o4 ?o5 ?o6 ?_)
      case o1 => exact (HO.out.alloc _).alloc _
      case o2 => exact World.news_of_block (cs := #[.int .i64 y0, .int .i64 y1, .int .i64 y2, .int .i64 y3]) (t := 36) (fr := (0, 0)) (by
        have := heap_alloc_new (wr.alloc (.cells #[.int .i64 y0, .int .i64 y1, .int .i64 y2, .int .i64 y3] 23)) (.cells #[.int .i64 y0, .int .i64 y1, .int .i64 y2, .int .i64 y3] 36)
        simpa using this)
      case o3 => intro u hu; simp at hu; rcases hu with rfl | rfl | rfl | rfl <;> rfl
      case o4 => unfold maxLen; omega
      case o5 => omega
      case o6 => have := HT.out.size; simp; omega
      intro v' w2 hown hg _ _
      have HO2 := Lib.hid hown
      have HT2 := Lib.hid (show Turn nowhere w w2 from ((HT.out.alloc _).alloc _).grown hg (fun q hq hlt => by have := (HO.out.lt q hq).1; omega))
      clear hown hg
      go_wp2
      go_roundg (n - (k + 1))
      case rel => exact ⟨k + 1, rfl, by omega, by go_num, by rw [HS.out]; exact HO2, HT2⟩
      case measure => omega
    · obtain rfl : k = n := by omega
      have htk : xs.take k = xs := by rw [← HL.out]; exact List.take_length
      rw [htk] at HO
      go_wp2
      go_ret
      exact ⟨_, rfl, HO.out, HT.out⟩


set_option maxHeartbeats 400000 in
/-- 'Same' of two lists that are the same. -/
theorem same_calls (A B : Option Addr) (n ca cb : Nat) (xs : List Ev) (w : World) (hx : Reads w 4 A n (evs xs)) (hy : Reads w 4 B n (evs xs)) (hn : n ≤ 100000) :
    Calls Tryd.prog 14 #[.slice A n ca, .slice B n cb] w fun e w' => e = .returned (.bool true) ∧ Turn nowhere w w' := by
  rcases Nat.eq_zero_or_pos n with h0 | h0
  · subst h0
    clear hx hy
    go_enter Tryd.func14, Tryd.ntmps14
    go_wp2
    refine wp_loop_rounds 1 ?_
    rw [rounds_succ]
    go_wp2
    go_ret
    exact ⟨rfl, Turn.refl _ _⟩
  · obtain ⟨b, off, rfl, hc⟩ := hx.ev h0
    obtain ⟨d, of2, rfl, hd⟩ := hy.ev h0
    have HC := Lib.hid hc
    have HD := Lib.hid hd
    clear hx hy hc hd h0
    go_enter Tryd.func14, Tryd.ntmps14
    go_wp2
    go_loopw [5] (fun i wr => ∃ k : Nat, k ≤ n ∧ i = .int .i64 k ∧ Hid (Turn nowhere w wr)) (fun i _ => n - (intOf i).toNat)
    case atStart => exact ⟨0, Nat.zero_le _, rfl, Turn.refl _ _⟩
    case round =>
      obtain ⟨k, hk, rfl, HT⟩ := hrel
      by_cases hlt : k < n
      · have h0 : (0 : Int) ≤ (k : Int) := by omega
        have h1 : (k : Int) < (n : Int) := by omega
        obtain ⟨x0, x1, x2, x3⟩ := (HC.out k hlt).turn HT.out (fun h => h)
        obtain ⟨y0, y1, y2, y3⟩ := (HD.out k hlt).turn HT.out (fun h => h)
        generalize xs.getD k default = p at x0 x1 x2 x3 y0 y1 y2 y3
        obtain ⟨p0, p1, p2, p3⟩ := p
        simp only at x0 x1 x2 x3 y0 y1 y2 y3
        go_wp2_with fail
        go_quiet (fail)
        go_wp2
        go_roundw
        case rel => exact ⟨k + 1, by omega, by go_num, HT.out.drewN _⟩
        case measure => simp [intOf]; omega
      · obtain rfl : k = n := by omega
        go_wp2
        go_ret
        exact ⟨rfl, HT.out⟩

def cnt (l : List Ev) (k : Int) : Nat := (l.filter (fun x => x.kind == k)).length
theorem cnt_step {l : List Ev} {kind : Int} {k : Nat} (h : k < l.length) : cnt (l.take (k + 1)) kind = cnt (l.take k) kind + (if (l.getD k default).kind = kind then 1 else 0) := by
  unfold cnt
  rw [List.take_succ_eq_append_getElem h, List.filter_append, List.length_append]
  simp only [List.getD, List.getElem?_eq_getElem h, Option.getD_some]
  congr 1
  by_cases h5 : l[k].kind = kind <;> simp [h5]
theorem cnt_le (l : List Ev) (k : Int) : cnt l k ≤ l.length := List.length_filter_le _ _

set_option maxHeartbeats 800000 in
theorem count_calls (A : Option Addr) (n c : Nat) (l : List Ev) (kind : Int) (w : World) (hx : Reads w 4 A n (evs l)) (hn : n ≤ 100000) :
    Calls Tryd.prog 15 #[.slice A n c, .int .i64 kind] w fun e w' => e = .returned (.int .i64 (cnt l kind : Nat)) ∧ Turn nowhere w w' := by
  have hl : l.length = n := by have := hx.1; rw [evs_len] at this; omega
  have HX := Lib.hid hx
  have HL := Lib.hid hl
  clear hx hl
  go_enter Tryd.func15, Tryd.ntmps15
  go_wp2
  go_loopg [5, 10] n (fun g s i wr => ∃ k : Nat, g = n - k ∧ k ≤ n ∧ i = .int .i64 k ∧ s = .int .i64 ((cnt (l.take k) kind : Nat) : Int) ∧ Hid (Turn nowhere w wr))
  case atStart => exact ⟨0, rfl, Nat.zero_le _, rfl, by simp [cnt], Turn.refl _ _⟩
  case round =>
    obtain ⟨k, rfl, hk, rfl, rfl, HT⟩ := hrel
    have h0 : (0 : Int) ≤ (k : Int) := by omega
    by_cases hlt : k < n
    case pos =>
      have h1 : (k : Int) < (n : Int) := by omega
      obtain ⟨b, off, rfl, hx⟩ := HX.out.ev (by omega)
      have ha := (hx k hlt).turn HT.out (fun h => h)
      clear hx
      have HS := Lib.hid (cnt_step (l := l) (kind := kind) (k := k) (by rw [HL.out]; exact hlt))
      have hcl : cnt (l.take k) kind ≤ 100000 := by have := cnt_le (l.take k) kind; simp at this; omega
      generalize l.getD k default = y at ha HS
      generalize cnt (l.take k) kind = s at HS hcl ⊢
      obtain ⟨y0, y1, y2, y3⟩ := y
      obtain ⟨a0, a1, a2, a3⟩ := ha
      simp only at a0 a1 a2 a3
      by_cases h5 : y0 = kind
      case pos =>
        subst y0
        have HS2 := Lib.hid (show cnt (l.take (k + 1)) kind = s + 1 from by rw [HS.out]; simp)
        go_wp2
        go_roundg (n - (k + 1))
        case rel => exact ⟨k + 1, rfl, by omega, by go_num, by rw [HS2.out]; go_num, HT.out.alloc _⟩
        case measure => omega
      case neg =>
        have HS2 := Lib.hid (show cnt (l.take (k + 1)) kind = s from by rw [HS.out]; simp [h5])
        have b5 : (y0 == kind) = false := beq_eq_false_iff_ne.2 h5
        clear h5
        go_wp2
        go_roundg (n - (k + 1))
        case rel => exact ⟨k + 1, rfl, by omega, by go_num, by rw [HS2.out], HT.out.alloc _⟩
        case measure => omega
    case neg =>
      obtain rfl : k = n := by omega
      have htk : l.take k = l := by rw [← HL.out]; exact List.take_length
      rw [htk]
      go_wp2
      go_ret
      exact ⟨rfl, HT.out⟩

set_option maxHeartbeats 400000 in
theorem clone_calls (A : Option Addr) (n c : Nat) (xs : List Ev) (w : World) (hx : Reads w 4 A n (evs xs)) (hn : n ≤ 100000) :
    Calls Tryd.prog 26 #[.slice A n c] w (RetFresh 23 4 n (evs xs) w) := by
  obtain ⟨i0, hi, hz0, hz1, hz2⟩ := info_parts Tryd.info23
  have hq := fun w' => Lib.run_eql_slice_nil (P := Tryd.prog) w' 24 23 A n c 0 0 Tryd.underlying24
  rcases A with _ | ad
  · obtain rfl : n = 0 := by
      rcases Nat.eq_zero_or_pos n with h | h
      · exact h
      · obtain ⟨_, _, h, _⟩ := hx.2 h; cases h
    obtain rfl : xs = [] := List.eq_nil_of_length_eq_zero (by have := hx.1; rw [evs_len] at this; omega)
    clear hx
    go_enter Tryd.func26, Tryd.ntmps26
    go_wp2
    go_ret
    exact ⟨_, rfl, World.ownsRow_nil _ _ _ _, Turn.refl _ _⟩
  · have HX := Lib.hid hx
    clear hx
    have h63 : 0 + n ≤ maxLen := by unfold maxLen; omega
    go_enter Tryd.func26, Tryd.ntmps26
    go_wp2_with (at_builtin; refine wpList_append_reads _ rfl _ _ 24 rfl w.heap.size 23 i0 (.agg #[.int .i64 0, .int .i64 0, .int .i64 0, .int .i64 0]) 4 32 Tryd.underlying24 hi hz0 hz1 hz2 rfl (by decide) _ 0 [] rfl ?o1 _ n c (evs xs) rfl ?o2 (evs_one xs) h63 (by omega) (by simp) ?_)
    case o1 => exact World.ownsRow_lit w #[] 0 (Nat.le_refl _) (by simp [maxLen]) rfl
    case o2 => exact HX.out.kept ((Turn.refl _ _).alloc _)
    intro v' w' hown hg _
    have HO := Lib.hid hown
    have HG := Lib.hid (show Turn nowhere w w' from ((Turn.refl nowhere w).alloc _).grown hg (by intro g h; simp [Value.ownBlock] at h; omega))
    clear hown hg
    go_wp2
    go_ret
    exact ⟨_, rfl, by simpa using HO.out, HG.out⟩

end Go.Proofs.YtbeapjndgkjpeaaDoor
