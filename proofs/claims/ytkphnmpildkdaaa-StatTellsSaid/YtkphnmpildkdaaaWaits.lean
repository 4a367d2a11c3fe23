/- The contract of stat.Waits: how long tasks waited, as a fold over the events. -/
import Derived.Test.YtkphnmpildkdaaaSame
import Derived.Deep.RegionHeld3
import Derived.Deep.DrawnRows
import Derived.Deep.RegionLaw
import Derived.StillTailTactics
import Derived.Deep.OwnRows
import Derived.Deep.CutRange
import Derived.Deep.CutBlock
namespace Go.Proofs.Ytkphnmpildkdaaa
open Go.RowKit Go.Maps

structure St where
  now : Int
  since : Int → Option Int
  out : List Nat

def stepW (kind : Int) (s : St) (x : Ev) : St :=
  if x.kind = 8 then { s with now := x.n }
  else if x.kind = 4 then { s with since := fun t => if (s.since x.task).isNone ∧ t = x.task then some s.now else s.since t }
  else if x.kind = 5 then { s with since := fun t => if t = x.task then none else s.since t, out := match s.since x.task with
    | some from_ => if kind = 0 ∨ x.a = kind then s.out ++ [subF s.now from_] else s.out
    | none => s.out }
  else s
def st0 : St := ⟨0, fun _ => none, []⟩
def runW (kind : Int) (l : List Ev) : St := l.foldl (stepW kind) st0
theorem runW_step (kind : Int) {l : List Ev} {k : Nat} (h : k < l.length) : runW kind (l.take (k + 1)) = stepW kind (runW kind (l.take k)) (l.getD k default) := by
  unfold runW
  rw [List.take_succ_eq_append_getElem h, List.foldl_append]
  simp [List.getD, List.getElem?_eq_getElem h]

/-- The state holds numbers of 64 bits. -/
structure Fine (s : St) : Prop where
  now : wfi s.now
  since : ∀ t v, s.since t = some v → wfi v
  out : ∀ x ∈ s.out, w64 x
theorem wfi0 : wfi 0 := by decide
theorem Fine.st0 : Fine st0 := ⟨wfi0, fun _ _ h => (by cases h), fun _ h => (by cases h)⟩
theorem Fine.step {s : St} (h : Fine s) (kind : Int) {x : Ev} (hx : wfi x.n) : Fine (stepW kind s x) := by
  unfold stepW
  split
  · exact ⟨hx, h.since, h.out⟩
  · split
    · refine ⟨h.now, fun t v hv => ?_, h.out⟩
      simp only at hv
      split at hv
      · injection hv with hv; rw [← hv]; exact h.now
      · exact h.since t v hv
    · split
      · refine ⟨h.now, fun t v hv => ?_, ?_⟩
        · simp only at hv
          split at hv
          · cases hv
          · exact h.since t v hv
        · simp only
          cases hs : s.since x.task with
          | none => exact h.out
          | some f =>
            simp only
            split
            · intro y hy
              rcases List.mem_append.1 hy with hy | hy
              · exact h.out y hy
              · rw [List.mem_singleton.1 hy]; exact subF_w64 h.now (h.since _ _ hs)
            · exact h.out
      · exact h
theorem stepW_len (kind : Int) (s : St) (x : Ev) : (stepW kind s x).out.length ≤ s.out.length + 1 := by
  unfold stepW
  split
  · simp
  · split
    · simp
    · split
      · simp only
        cases s.since x.task with
        | none => simp
        | some f => simp only; split <;> simp
      · simp

def EvOK (x : Ev) : Prop := wfi x.kind ∧ wfi x.task ∧ wfi x.a ∧ wfi x.n

theorem keyed3 : Keyed Try.prog 3 := int_keyed Try.underlying3
theorem key3 {i : Int} (h : wfi i) : keyOf Try.prog 3 (.int .i64 i) = some (.int .i64 i) := keyOf_int_mk Try.underlying3 h
theorem zero2 (w : World) : (zeroValue 2).run Try.prog w = .ok (.int .i64 0) w := by kernel_rfl

/-- The memory that the loop keeps. -/
structure Keep (w wr : World) (s : St) (k : Nat) (v : Value) : Prop where
  row : wr.ownsRow (w.heap.size + 1) 24 1 v s.out.length (flts s.out)
  mp : MapIs Try.prog 3 wr w.heap.size k (fun t => (s.since t).map (Value.int .i64))
  turn : Turn nowhere w wr
  fine : Fine s
  len : s.out.length ≤ k

theorem Keep.lt {w wr : World} {s : St} {k : Nat} {v : Value} (h : Keep w wr s k v) : w.heap.size < wr.heap.size := h.mp.lt
/-- New memory turns nothing of it. -/
theorem Keep.turned {w wr w2 : World} {s : St} {k : Nat} {v : Value} (h : Keep w wr s k v) (ht : Turn nowhere wr w2) : Keep w w2 s k v :=
  ⟨ht.own h.row (fun _ _ h => h), h.mp.turn ht (fun h => h), h.turn.trans ht (fun _ _ h => h), h.fine, h.len⟩

theorem own_row_ne {w : World} {base : Nat} {e : TypeId} {size n : Nat} {v : Value} {xs : List Value} (h : w.ownsRow base e size v n xs) {b : Nat} (hb : b < base) : v.ownBlock ≠ some b := by
  intro hg
  have := (h.lt b hg).1
  omega

def WaitsR (kind : Int) (l : List Ev) (w : World) (e : Ending) (w' : World) : Prop :=
  ∃ v, e = .returned v ∧ w'.ownsRow (w.heap.size + 1) 24 1 v (runW kind l).out.length (flts (runW kind l).out) ∧ (∀ x ∈ (runW kind l).out, w64 x) ∧ (runW kind l).out.length ≤ l.length ∧ Turn nowhere w w'

theorem Keep.mapped {w wr w2 : World} {s : St} {k : Nat} {v : Value} (h : Keep w wr s k v) (hg : wr.grownBy w2 (some w.heap.size)) :
    w2.ownsRow (w.heap.size + 1) 24 1 v s.out.length (flts s.out) ∧ Turn nowhere w w2 := by
  have ht : Turn (fun q => q = w.heap.size) wr w2 := Turn.of_grown hg (fun g hq _ => by injection hq with hq; exact hq.symm)
  exact ⟨ht.own h.row (fun g hq e => own_row_ne h.row (Nat.lt_succ_self _) (by rw [hq, e])), h.turn.trans ht (fun i hi e => absurd hi (by omega))⟩

theorem Keep.start (w : World) : Keep w (w.alloc (.map #[] 0)) st0 0 (.slice none 0 0) :=
  ⟨World.ownsRow_nil _ _ _ _, MapIs.made Try.prog 3 w, (Turn.refl _ _).alloc _, Fine.st0, Nat.le_refl _⟩

theorem flts_snoc (a : List Nat) (x : Nat) : flts (a ++ [x]) = flts a ++ [.float .f64 x] := by simp

set_option maxRecDepth 20000 in
set_option maxHeartbeats 1600000 in
theorem waits_calls (A : Option Addr) (n c : Nat) (l : List Ev) (kind : Int) (w : World) (hx : Reads w 4 A n (evs l)) (hok : ∀ k, k < n → EvOK (l.getD k default)) (hn : n ≤ 100000) :
    Calls Try.prog 9 #[.slice A n c, .int .i64 kind] w (WaitsR kind l w) := by
  have hmm := @run_makeMap Try.prog
  obtain ⟨i0, hi, hz0, hz1, hz2⟩ := info_parts Try.info24
  have hl : l.length = n := by have := hx.1; rw [evs_len] at this; omega
  have HX := Lib.hid hx
  have HL := Lib.hid hl
  have HOK := Lib.hid hok
  clear hx hl hok
  go_enter Try.func9, Try.ntmps9
  go_wp2
  go_loopg [5, 6, 17] n (fun g v now i wr => ∃ k : Nat, g = n - k ∧ k ≤ n ∧ i = .int .i64 k ∧ now = .int .i64 (runW kind (l.take k)).now ∧ Hid (Keep w wr (runW kind (l.take k)) k v))
  case atStart => exact ⟨0, rfl, Nat.zero_le _, rfl, rfl, Keep.start w⟩
  case round =>
    obtain ⟨k, rfl, hk, rfl, rfl, HK⟩ := hrel
    have h0 : (0 : Int) ≤ (k : Int) := by omega
    by_cases hlt : k < n
    case pos =>
      have h1 : (k : Int) < (n : Int) := by omega
      obtain ⟨b, off, rfl, hx⟩ := HX.out.ev (by omega)
      have ha := (hx k hlt).turn HK.out.turn (fun h => h)
      clear hx
      have hy := HOK.out k hlt
      have HS := Lib.hid (runW_step kind (l := l) (k := k) (by rw [HL.out]; exact hlt))
      generalize l.getD k default = y at ha hy HS
      generalize runW kind (l.take k) = s at HK HS
      obtain ⟨yk, yt, ya, yn⟩ := y
      obtain ⟨a0, a1, a2, a3⟩ := ha
      obtain ⟨wk, wt, wa, wn⟩ := hy
      simp only at a0 a1 a2 a3 wk wt wa wn
      have HWT := Lib.hid wt
      have HWN := Lib.hid wn
      clear wk wt wa wn
      have HK1 := Lib.hid (HK.out.turned ((Turn.refl nowhere wr).alloc (.cells #[.int .i64 yk, .int .i64 yt, .int .i64 ya, .int .i64 yn] 41)))
      have hwlt := HK.out.lt
      clear HK
      by_cases h8 : yk = 8
      case pos =>
        subst yk
        have HS2 := Lib.hid (show runW kind (l.take (k + 1)) = { s with now := yn } from by rw [HS.out]; simp [stepW])
        go_wp2
        go_roundg (n - (k + 1))
        case rel => exact ⟨k + 1, rfl, by omega, by go_num, by rw [HS2.out], Lib.hid (by rw [HS2.out]; exact ⟨HK1.out.row, HK1.out.mp.mono (Nat.le_succ _), HK1.out.turn, ⟨HWN.out, HK1.out.fine.since, HK1.out.fine.out⟩, Nat.le_succ_of_le HK1.out.len⟩)⟩
        case measure => omega
      case neg =>
        by_cases h4 : yk = 4
        case pos =>
          subst yk
          have l1 := HK1.out.mp.look_ok keyed3 Try.underlying43 (zero2 _) (key3 HWT.out) HWT.out
          cases hs : s.since yt with
          | some f =>
            rw [hs] at l1
            have HS2 := Lib.hid (show runW kind (l.take (k + 1)) = s from by rw [HS.out]; simp [stepW, hs])
            clear hs h8
            go_wp2
            go_roundg (n - (k + 1))
            case rel => exact ⟨k + 1, rfl, by omega, by go_num, by rw [HS2.out], Lib.hid (by rw [HS2.out]; exact ⟨HK1.out.row, HK1.out.mp.mono (Nat.le_succ _), HK1.out.turn, HK1.out.fine, Nat.le_succ_of_le HK1.out.len⟩)⟩
            case measure => omega
          | none =>
            rw [hs] at l1
            have HS2 := Lib.hid (show runW kind (l.take (k + 1)) = { s with since := fun t => if t = yt then some s.now else s.since t } from by rw [HS.out]; simp [stepW, hs])
            have HFI := Lib.hid (show Fine (runW kind (l.take (k + 1))) from by rw [HS.out]; exact HK1.out.fine.step kind HWN.out)
            obtain ⟨w6, hrun6, hm6, hg6⟩ := HK1.out.mp.store keyed3 Try.underlying43 (by unfold maxLen; omega) (key3 HWT.out) (.int .i64 s.now)
            have HM6 := Lib.hid hm6
            have HG6 := Lib.hid (HK1.out.mapped hg6)
            clear hs h8 hm6 hg6
            go_wp2
            go_roundg (n - (k + 1))
            case rel =>
              refine ⟨k + 1, rfl, by omega, by go_num, by rw [HS2.out], Lib.hid ?_⟩
              refine ⟨by rw [HS2.out]; exact HG6.out.1, HM6.out.congr (fun i => ?_), HG6.out.2, HFI.out, ?_⟩
              · rw [HS2.out]; simp only; split <;> rfl
              · rw [HS2.out]; exact Nat.le_succ_of_le HK1.out.len
            case measure => omega
        case neg =>
          by_cases h5 : yk = 5
          case pos =>
            subst yk
            have l1 := HK1.out.mp.look_ok keyed3 Try.underlying43 (zero2 _) (key3 HWT.out) HWT.out
            have HFI := Lib.hid (show Fine (runW kind (l.take (k + 1))) from by rw [HS.out]; exact HK1.out.fine.step kind HWN.out)
            clear h8 h4
            cases hs : s.since yt with
            | none =>
              rw [hs] at l1
              have HS2 := Lib.hid (show runW kind (l.take (k + 1)) = { s with since := fun t => if t = yt then none else s.since t } from by rw [HS.out]; simp [stepW, hs])
              clear hs
              go_wp2_with (at_delete; refine wpList_delete_is _ rfl (.tmp 51) (.tmp 53) 43 3 rfl 2 keyed3 Try.underlying43 w.heap.size k _ rfl HK1.out.mp yt rfl (key3 HWT.out) ?_; intro w7 hm7 hg7; have HM7 := Lib.hid hm7; have HG7 := Lib.hid (HK1.out.mapped hg7); clear hm7 hg7)
              go_roundg (n - (k + 1))
              case rel =>
                refine ⟨k + 1, rfl, by omega, by go_num, by rw [HS2.out], Lib.hid ?_⟩
                refine ⟨by rw [HS2.out]; exact HG7.out.1, (HM7.out.mono (Nat.le_succ _)).congr (fun i => ?_), HG7.out.2, HFI.out, ?_⟩
                · rw [HS2.out]; simp only; split <;> rfl
                · rw [HS2.out]; exact Nat.le_succ_of_le HK1.out.len
              case measure => omega
            | some f =>
              rw [hs] at l1
              by_cases hq : kind = 0 ∨ ya = kind
              case neg =>
                have HS2 := Lib.hid (show runW kind (l.take (k + 1)) = { s with since := fun t => if t = yt then none else s.since t } from by rw [HS.out]; simp [stepW, hs, hq])
                have b1 : (kind == 0) = false := beq_eq_false_iff_ne.2 (fun h => hq (.inl h))
                have b2 : (ya == kind) = false := beq_eq_false_iff_ne.2 (fun h => hq (.inr h))
                clear hs hq
                have a2' : (wr.alloc (.cells #[.int .i64 5, .int .i64 yt, .int .i64 ya, .int .i64 yn] 41)).cell? ⟨wr.heap.size, 2, none⟩ = some (.int .i64 ya) := by simp
                go_wp2_with (at_delete; refine wpList_delete_is _ rfl (.tmp 51) (.tmp 53) 43 3 rfl 2 keyed3 Try.underlying43 w.heap.size k _ rfl HK1.out.mp yt rfl (key3 HWT.out) ?_; intro w7 hm7 hg7; have HM7 := Lib.hid hm7; have HG7 := Lib.hid (HK1.out.mapped hg7); have a7 := (Turn.of_grown (F := fun q => q = w.heap.size) hg7 (fun g hq _ => by injection hq with hq; exact hq.symm)).cell a2' (Nat.ne_of_gt hwlt); clear hm7 hg7)
                go_roundg (n - (k + 1))
                case rel =>
                  refine ⟨k + 1, rfl, by omega, by go_num, by rw [HS2.out], Lib.hid ?_⟩
                  refine ⟨by rw [HS2.out]; exact HG7.out.1, (HM7.out.mono (Nat.le_succ _)).congr (fun i => ?_), HG7.out.2, HFI.out, ?_⟩
                  · rw [HS2.out]; simp only; split <;> rfl
                  · rw [HS2.out]; exact Nat.le_succ_of_le HK1.out.len
                case measure => omega
              case pos =>
                have HS2 := Lib.hid (show runW kind (l.take (k + 1)) = { s with since := (fun t => if t = yt then none else s.since t), out := s.out ++ [subF s.now f] } from by rw [HS.out]; simp [stepW, hs, hq])
                have hsub := fun w => run_float_arith (P := Try.prog) w .sub 24 .f64 (floatOfInt .f64 s.now) (floatOfInt .f64 f) (subF s.now f) (sub_some HK1.out.fine.now (HK1.out.fine.since _ _ hs))
                have hlen := HK1.out.len
                clear hs
                have a2' : (wr.alloc (.cells #[.int .i64 5, .int .i64 yt, .int .i64 ya, .int .i64 yn] 41)).cell? ⟨wr.heap.size, 2, none⟩ = some (.int .i64 ya) := by simp
                by_cases hk0 : kind = 0
                case pos =>
                  subst kind
                  clear hq a2'
                  go_wp2_with (first
                    | (at_delete; refine wpList_delete_is _ rfl (.tmp 51) (.tmp 53) 43 3 rfl 2 keyed3 Try.underlying43 w.heap.size k _ rfl HK1.out.mp yt rfl (key3 HWT.out) ?_; intro w7 hm7 hg7; have HM7 := Lib.hid hm7; have HG7 := Lib.hid (HK1.out.mapped hg7); clear hm7 hg7)
                    | (at_builtin; refine wpList_append_own_at _ rfl (.tmp 65) (.tmp 71) 23 rfl (w.heap.size + 1) 24 i0 (.float .f64 0) 1 8 Try.underlying23 hi hz0 hz1 hz2 rfl (by decide) u5 s.out.length (flts s.out) rfl ?o1 ⟨w7.heap.size, 0, none⟩ 1 1 [.float .f64 (subF s.now f)] rfl rfl ?o2 ?o3 ?o4 ?o5 ?o6 ?_))
                  case o1 => exact HG7.out.1.alloc _
                  case o2 => exact World.news_of_block (cs := #[.float .f64 (subF s.now f)]) (t := 24) (fr := (0, 0)) (by
                      have := heap_alloc_new w7 (.cells #[.float .f64 (subF s.now f)] 24)
                      simpa using this)
                  case o3 => intro u hu; simp at hu; subst hu; rfl
                  case o4 => unfold maxLen; omega
                  case o5 => omega
                  case o6 => have := HM7.out.lt; simp; omega
                  intro v' w8 hown hg _ _
                  have HO8 := Lib.hid hown
                  have HM8 := Lib.hid ((HM7.out.turn ((Turn.refl nowhere w7).alloc (.cells #[.float .f64 (subF s.now f)] 24)) (fun h => h)).turn (Turn.of_grown (F := fun q => u5.ownBlock = some q) hg (fun g hq _ => hq)) (own_row_ne HG7.out.1 (Nat.lt_succ_self _)))
                  have HT8 := Lib.hid (show Turn nowhere w w8 from (HG7.out.2.alloc _).grown hg (fun q hq hlt => by have := (HG7.out.1.lt q hq).1; omega))
                  clear hown hg
                  go_wp2
                  go_roundg (n - (k + 1))
                  case rel =>
                    refine ⟨k + 1, rfl, by omega, by go_num, by rw [HS2.out], Lib.hid ?_⟩
                    refine ⟨?_, (HM8.out.mono (Nat.le_succ _)).congr (fun i => ?_), HT8.out, HFI.out, ?_⟩
                    · rw [HS2.out]; simp only [flts_snoc, List.length_append, List.length_singleton]; exact HO8.out
                    · rw [HS2.out]; simp only; split <;> rfl
                    · rw [HS2.out]; have := HK1.out.len; simp; omega
                  case measure => omega
                case neg =>
                  obtain rfl : ya = kind := hq.resolve_left hk0
                  have b1 : (ya == 0) = false := beq_eq_false_iff_ne.2 hk0
                  clear hq hk0
                  go_wp2_with (first
                    | (at_delete; refine wpList_delete_is _ rfl (.tmp 51) (.tmp 53) 43 3 rfl 2 keyed3 Try.underlying43 w.heap.size k _ rfl HK1.out.mp yt rfl (key3 HWT.out) ?_; intro w7 hm7 hg7; have HM7 := Lib.hid hm7; have HG7 := Lib.hid (HK1.out.mapped hg7); have a7 := (Turn.of_grown (F := fun q => q = w.heap.size) hg7 (fun g hq _ => by injection hq with hq; exact hq.symm)).cell a2' (Nat.ne_of_gt hwlt); clear hm7 hg7)
                    | (at_builtin; refine wpList_append_own_at _ rfl (.tmp 65) (.tmp 71) 23 rfl (w.heap.size + 1) 24 i0 (.float .f64 0) 1 8 Try.underlying23 hi hz0 hz1 hz2 rfl (by decide) u5 s.out.length (flts s.out) rfl ?o1 ⟨w7.heap.size, 0, none⟩ 1 1 [.float .f64 (subF s.now f)] rfl rfl ?o2 ?o3 ?o4 ?o5 ?o6 ?_))
                  case o1 => exact HG7.out.1.alloc _
                  case o2 => exact World.news_of_block (cs := #[.float .f64 (subF s.now f)]) (t := 24) (fr := (0, 0)) (by
                      have := heap_alloc_new w7 (.cells #[.float .f64 (subF s.now f)] 24)
                      simpa using this)
                  case o3 => intro u hu; simp at hu; subst hu; rfl
                  case o4 => unfold maxLen; omega
                  case o5 => omega
                  case o6 => have := HM7.out.lt; simp; omega
                  intro v' w8 hown hg _ _
                  have HO8 := Lib.hid hown
                  have HM8 := Lib.hid ((HM7.out.turn ((Turn.refl nowhere w7).alloc (.cells #[.float .f64 (subF s.now f)] 24)) (fun h => h)).turn (Turn.of_grown (F := fun q => u5.ownBlock = some q) hg (fun g hq _ => hq)) (own_row_ne HG7.out.1 (Nat.lt_succ_self _)))
                  have HT8 := Lib.hid (show Turn nowhere w w8 from (HG7.out.2.alloc _).grown hg (fun q hq hlt => by have := (HG7.out.1.lt q hq).1; omega))
                  clear hown hg
                  go_wp2
                  go_roundg (n - (k + 1))
                  case rel =>
                    refine ⟨k + 1, rfl, by omega, by go_num, by rw [HS2.out], Lib.hid ?_⟩
                    refine ⟨?_, (HM8.out.mono (Nat.le_succ _)).congr (fun i => ?_), HT8.out, HFI.out, ?_⟩
                    · rw [HS2.out]; simp only [flts_snoc, List.length_append, List.length_singleton]; exact HO8.out
                    · rw [HS2.out]; simp only; split <;> rfl
                    · rw [HS2.out]; have := HK1.out.len; simp; omega
                  case measure => omega
          case neg =>
            have b8 : (yk == 8) = false := beq_eq_false_iff_ne.2 h8
            have b4 : (yk == 4) = false := beq_eq_false_iff_ne.2 h4
            have b5 : (yk == 5) = false := beq_eq_false_iff_ne.2 h5
            have HS2 := Lib.hid (show runW kind (l.take (k + 1)) = s from by rw [HS.out]; simp [stepW, h8, h4, h5])
            clear h8 h4 h5
            go_wp2
            go_roundg (n - (k + 1))
            case rel => exact ⟨k + 1, rfl, by omega, by go_num, by rw [HS2.out], Lib.hid (by rw [HS2.out]; exact ⟨HK1.out.row, HK1.out.mp.mono (Nat.le_succ _), HK1.out.turn, HK1.out.fine, Nat.le_succ_of_le HK1.out.len⟩)⟩
            case measure => omega
    case neg =>
      obtain rfl : k = n := by omega
      have htk : l.take k = l := by rw [← HL.out]; exact List.take_length
      rw [htk] at HK
      go_wp2
      go_ret
      exact ⟨_, rfl, HK.out.row, HK.out.fine.out, by rw [HL.out]; exact HK.out.len, HK.out.turn⟩

end Go.Proofs.Ytkphnmpildkdaaa
