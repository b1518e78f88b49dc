/- Plain: what a Cron may be; numbers and pairs in memory. -/
import Derived.Test.YtdnbnpknmdcljaaGreatDoorMore
import Derived.IntWalk
import Derived.Lib.Hide
import Derived.Lib.OthersKept
import Derived.BigCall
import Derived.Deep.QuietTactic
import Derived.Deep.Slices
import Derived.BigQuiet
import Derived.Below
namespace Go.Proofs.YtdnbnpknmdcljaaGreatDoor
open Go.RowKit
theorem add_block (a : Addr) (k : Nat) : (a.add k).block = a.block := by unfold Addr.add; split <;> rfl
/-- Numbers that lie somewhere. -/
def IntS (w : World) (v : Value) (l : List Int) : Prop := ∃ oa cap, v = .slice oa l.length cap ∧ (0 < l.length → ∃ a, oa = some a) ∧ ∀ a, oa = some a → (0 < l.length → a.block < w.heap.size) ∧ ∀ k, k < l.length → w.cell? (a.add k) = some (.int .i64 (l.getD k 0))
theorem IntS.call {w w' : World} {v : Value} {l : List Int} (h : IntS w v l) (hb : Below w.heap.size w w') : IntS w' v l := by
  obtain ⟨oa, cap, h1, h2, h3⟩ := h
  refine ⟨oa, cap, h1, h2, fun a ha => ⟨fun h0 => Nat.lt_of_lt_of_le ((h3 a ha).1 h0) hb.size, fun k hk => ?_⟩⟩
  exact (hb.cell (p := a.add k) (by rw [add_block]; exact (h3 a ha).1 (by omega))).trans ((h3 a ha).2 k hk)
theorem IntS.at {w : World} {oa : Option Addr} {n cap : Nat} {l : List Int} (h : IntS w (.slice oa n cap) l) {k : Nat} (hk : k < l.length) : ∃ a, oa = some a ∧ w.cell? (a.add k) = some (.int .i64 (l.getD k 0)) := by
  obtain ⟨oa', cap', e, h2, h3⟩ := h
  cases e
  obtain ⟨a, rfl⟩ := h2 (by omega)
  exact ⟨a, rfl, (h3 a rfl).2 k hk⟩
/-- Pairs of numbers that lie somewhere. -/
def PairS (w : World) (v : Value) (l : List (Int × Int)) : Prop := ∃ oa cap, v = .slice oa l.length cap ∧ (0 < l.length → ∃ a, oa = some a) ∧ ∀ a, oa = some a → (0 < l.length → a.block < w.heap.size) ∧ ∀ k, k < l.length → w.cell? (a.add (k * 2)) = some (.int .i64 (l.getD k (0, 0)).1) ∧ w.cell? (a.add (k * 2 + 1)) = some (.int .i64 (l.getD k (0, 0)).2)
theorem PairS.call {w w' : World} {v : Value} {l : List (Int × Int)} (h : PairS w v l) (hb : Below w.heap.size w w') : PairS w' v l := by
  obtain ⟨oa, cap, h1, h2, h3⟩ := h
  refine ⟨oa, cap, h1, h2, fun a ha => ⟨fun h0 => Nat.lt_of_lt_of_le ((h3 a ha).1 h0) hb.size, fun k hk => ?_⟩⟩
  have hl := (h3 a ha).1 (by omega)
  exact ⟨(hb.cell (p := a.add (k * 2)) (by rw [add_block]; exact hl)).trans ((h3 a ha).2 k hk).1, (hb.cell (p := a.add (k * 2 + 1)) (by rw [add_block]; exact hl)).trans ((h3 a ha).2 k hk).2⟩
theorem PairS.at {w : World} {oa : Option Addr} {n cap : Nat} {l : List (Int × Int)} (h : PairS w (.slice oa n cap) l) {k : Nat} (hk : k < l.length) : ∃ a, oa = some a ∧ w.cell? (a.add (k * 2)) = some (.int .i64 (l.getD k (0, 0)).1) ∧ w.cell? { block := (a.add (k * 2)).block, off := (a.add (k * 2)).off + 1 } = some (.int .i64 (l.getD k (0, 0)).2) := by
  obtain ⟨oa', cap', e, h2, h3⟩ := h
  cases e
  obtain ⟨a, rfl⟩ := h2 (by omega)
  obtain ⟨h4, h5⟩ := (h3 a rfl).2 k hk
  rw [show a.add (k * 2 + 1) = (a.add (k * 2)).add 1 from (Go.Deep.add_add a (k * 2) 1).symm] at h5
  exact ⟨a, rfl, h4, h5⟩
/-- One place of a list that rises. -/
def RisAt (l : List Int) (a b : Int) (k : Nat) : Prop := a ≤ l.getD k 0 ∧ l.getD k 0 ≤ b ∧ (0 < k → l.getD (k - 1) 0 < l.getD k 0)
instance (l : List Int) (a b : Int) (k : Nat) : Decidable (RisAt l a b k) := by unfold RisAt; infer_instance
def risB (l : List Int) (a b : Int) : Bool := decide (∀ k, k < l.length → RisAt l a b k)
theorem ris_true {l : List Int} {a b : Int} (h : ∀ k, k < l.length → RisAt l a b k) : risB l a b = true := decide_eq_true h
theorem ris_false {l : List Int} {a b : Int} {k : Nat} (hk : k < l.length) (h : ¬ RisAt l a b k) : risB l a b = false := decide_eq_false fun hh => h (hh k hk)
theorem ris_at {l : List Int} {a b : Int} (h : risB l a b = true) (k : Nat) (hk : k < l.length) : RisAt l a b k := of_decide_eq_true h k hk
theorem ris_len {l : List Int} {a b : Int} (h : risB l a b = true) (hl : 0 < l.length) : (l.length : Int) ≤ b - a + 1 := by
  have key : ∀ k, k < l.length → a + (k : Int) ≤ l.getD k 0 := by
    intro k
    induction k with
    | zero => intro hk; have := (ris_at h 0 hk).1; omega
    | succ k ih =>
      intro hk
      have h1 := ih (by omega)
      have h2 := (ris_at h (k + 1) hk).2.2 (by omega)
      rw [Nat.add_sub_cancel] at h2
      omega
  have h1 := key (l.length - 1) (by omega)
  have h2 := (ris_at h (l.length - 1) (by omega)).2.1
  omega
/-- One place of the list of the N-th days: N, Day. -/
def NthAt (l : List (Int × Int)) (k : Nat) : Prop := 1 ≤ (l.getD k (0, 0)).1 ∧ (l.getD k (0, 0)).1 ≤ 5 ∧ 1 ≤ (l.getD k (0, 0)).2 ∧ (l.getD k (0, 0)).2 ≤ 7 ∧ (0 < k → 10 * (l.getD (k - 1) (0, 0)).2 + (l.getD (k - 1) (0, 0)).1 < 10 * (l.getD k (0, 0)).2 + (l.getD k (0, 0)).1)
instance (l : List (Int × Int)) (k : Nat) : Decidable (NthAt l k) := by unfold NthAt; infer_instance
def nthB (l : List (Int × Int)) : Bool := decide (∀ k, k < l.length → NthAt l k)
theorem nth_true {l : List (Int × Int)} (h : ∀ k, k < l.length → NthAt l k) : nthB l = true := decide_eq_true h
theorem nth_false {l : List (Int × Int)} {k : Nat} (hk : k < l.length) (h : ¬ NthAt l k) : nthB l = false := decide_eq_false fun hh => h (hh k hk)
theorem nth_at {l : List (Int × Int)} (h : nthB l = true) (k : Nat) (hk : k < l.length) : NthAt l k := of_decide_eq_true h k hk
/-- A Cron. -/
structure Cron where
  mi : List Int
  ho : List Int
  mo : List Int
  any : Bool
  da : List Int
  la : Bool
  ne : List Int
  aw : Bool
  wd : List Int
  lo : List Int
  nt : List (Int × Int)
def Cron.month (c : Cron) : Bool := decide (0 < c.da.length + c.ne.length) || c.la
def Cron.week (c : Cron) : Bool := decide (0 < c.wd.length + c.lo.length + c.nt.length)
/-- What is asked of a Cron but for the N-th days. -/
def Cron.head (c : Cron) : Bool := risB c.mi 0 59 && risB c.ho 0 23 && risB c.mo 1 12 && risB c.da 1 31 && risB c.ne 1 31 && risB c.wd 1 7 && risB c.lo 1 7 && (c.any != c.month) && (c.aw != c.week) && decide (0 < c.mi.length) && decide (0 < c.ho.length) && decide (0 < c.mo.length)
def Cron.ok (c : Cron) : Bool := c.head && nthB c.nt
/-- A Cron that came in, in pieces. -/
structure CronR (w : World) (c : Cron) (v0 v1 v2 v4 v6 v8 v9 v10 : Value) : Prop where
  mi : IntS w v0 c.mi
  ho : IntS w v1 c.ho
  mo : IntS w v2 c.mo
  da : IntS w v4 c.da
  ne : IntS w v6 c.ne
  wd : IntS w v8 c.wd
  lo : IntS w v9 c.lo
  nt : PairS w v10 c.nt
theorem CronR.call {w w' : World} {c : Cron} {v0 v1 v2 v4 v6 v8 v9 v10 : Value} (h : CronR w c v0 v1 v2 v4 v6 v8 v9 v10) (hb : Below w.heap.size w w') : CronR w' c v0 v1 v2 v4 v6 v8 v9 v10 :=
  ⟨h.mi.call hb, h.ho.call hb, h.mo.call hb, h.da.call hb, h.ne.call hb, h.wd.call hb, h.lo.call hb, h.nt.call hb⟩
def cronV (c : Cron) (v0 v1 v2 v4 v6 v8 v9 v10 : Value) : Value := .agg #[v0, v1, v2, .bool c.any, v4, .bool c.la, v6, .bool c.aw, v8, v9, v10]
structure CronZ (c : Cron) : Prop where
  mi : c.mi.length ≤ 140737488355328
  ho : c.ho.length ≤ 140737488355328
  mo : c.mo.length ≤ 140737488355328
  da : c.da.length ≤ 140737488355328
  ne : c.ne.length ≤ 140737488355328
  wd : c.wd.length ≤ 140737488355328
  lo : c.lo.length ≤ 140737488355328
  nt : c.nt.length ≤ 140737488355328
end Go.Proofs.YtdnbnpknmdcljaaGreatDoor
