/- WALKS: comparisons; the grounds; the first ground; Better; Why. -/
import Derived.Test.YteecfjkljmmecaaGreatGr
import Derived.Test.YteecfjkljmmecaaGreatProg
import Derived.WalkLawsBesides
import Derived.Deep.LoopGhost
import Derived.Lib.Hide
import Derived.Lib.Bytealg
import Derived.Laws.Externs
import Derived.KernelRfl
namespace Go.Proofs.YteecfjkljmmecaaGreat
open Go.RowKit Go.Sort
def icmp (a b : Int) : Int := if a < b then -1 else if b < a then 1 else 0
def scmp (a b : ByteArray) : Int := Lib.compareBytes a.data.toList b.data.toList
def IntPost (n : Int) (w : World) (e : Ending) (w' : World) : Prop := e = .returned (.int .i64 n) ∧ w = w'
theorem nan80 (a : Int) (w : World) : Calls Tryz.prog 80 #[.int .i64 a] w fun e w' => e = .returned (.bool false) ∧ w = w' := by
  go_enter Tryz.func80, Tryz.ntmps80
  go_wp2
  go_ret
  exact ⟨by simp, rfl⟩
theorem nan86 (a : Int) (w : World) : Calls Tryz.prog 86 #[.int .i64 a] w fun e w' => e = .returned (.bool false) ∧ w = w' := by
  go_enter Tryz.func86, Tryz.ntmps86
  go_wp2
  go_ret
  exact ⟨by simp, rfl⟩
set_option maxHeartbeats 1000000 in
theorem cmp48 (a b : Int) (w : World) : Calls Tryz.prog 48 #[.int .i64 a, .int .i64 b] w (IntPost (icmp a b) w) := by
  have hd : (a < b ∧ icmp a b = -1) ∨ (b < a ∧ ¬ a < b ∧ icmp a b = 1) ∨ (¬ a < b ∧ ¬ b < a ∧ icmp a b = 0) := by unfold icmp; omega
  go_enter Tryz.func48, Tryz.ntmps48
  rcases hd with ⟨h1, h2⟩ | ⟨h1, h3, h2⟩ | ⟨h1, h3, h2⟩ <;> have H := Lib.hid h2 <;> clear h2
  all_goals
    go_wp2_with (first | (go_at_call 80; refine (nan80 _ _).mono ?_; rintro e w' ⟨rfl, rfl⟩))
    go_ret
    exact ⟨by rw [H.out]; rfl, rfl⟩
set_option maxHeartbeats 1000000 in
theorem cmp59 (a b : Int) (w : World) : Calls Tryz.prog 59 #[.int .i64 a, .int .i64 b] w (IntPost (icmp a b) w) := by
  have hd : (a < b ∧ icmp a b = -1) ∨ (b < a ∧ ¬ a < b ∧ icmp a b = 1) ∨ (¬ a < b ∧ ¬ b < a ∧ icmp a b = 0) := by unfold icmp; omega
  go_enter Tryz.func59, Tryz.ntmps59
  rcases hd with ⟨h1, h2⟩ | ⟨h1, h3, h2⟩ | ⟨h1, h3, h2⟩ <;> have H := Lib.hid h2 <;> clear h2
  all_goals
    go_wp2_with (first | (go_at_call 86; refine (nan86 _ _).mono ?_; rintro e w' ⟨rfl, rfl⟩))
    go_ret
    exact ⟨by rw [H.out]; rfl, rfl⟩
set_option maxRecDepth 100000 in
theorem cmp85 (a b : ByteArray) (w : World) : Calls Tryz.prog 85 #[.string a, .string b] w (IntPost (scmp a b) w) := by
  go_enter Tryz.func85, Tryz.ntmps85
  go_wp2
  rw [run_callFunc_extern Tryz.func114 (by kernel_rfl) (by kernel_rfl) (by kernel_rfl) (e := Extern.BytealgCompare.compare) (by kernel_rfl), Lib.run_compareString]
  simp only [Result.andThen]
  rw [Oper.upon_value]
  go_wp2
  go_ret
  exact ⟨rfl, rfl⟩
theorem cmp57 (a b : ByteArray) (w : World) : Calls Tryz.prog 57 #[.string a, .string b] w (IntPost (scmp a b) w) := by
  go_enter Tryz.func57, Tryz.ntmps57
  go_wp2_with (first | (go_at_call 85; refine (cmp85 _ _ _).mono ?_; rintro e w' ⟨rfl, rfl⟩))
  go_ret
  exact ⟨rfl, rfl⟩
structure Clm where
  name : ByteArray
  thing : ByteArray
  right : Int
  day : Int
  amt : Int
def cVal (c : Clm) : Value := .agg #[.string c.name, .string c.thing, .int .i64 c.right, .int .i64 c.day, .int .i64 c.amt]
def GrowPost (n : Int) (w : World) (e : Ending) (w' : World) : Prop := e = .returned (.int .i64 n) ∧ Grows w w'
section
variable (a b : Clm) (w : World)
theorem g54 : Calls Tryz.prog 54 #[cVal a, cVal b] w (GrowPost (icmp a.right b.right) w) := by
  obtain ⟨a1, a2, a3, a4, a5⟩ := a
  obtain ⟨b1, b2, b3, b4, b5⟩ := b
  unfold cVal
  go_enter Tryz.func54, Tryz.ntmps54
  go_wp2_with (first | (go_at_call 48; refine (cmp48 _ _ _).mono ?_; rintro e w' ⟨rfl, rfl⟩))
  go_ret
  exact ⟨rfl, ((Grows.refl w).alloc _).alloc _⟩
theorem g55 : Calls Tryz.prog 55 #[cVal a, cVal b] w (GrowPost (icmp a.day b.day) w) := by
  obtain ⟨a1, a2, a3, a4, a5⟩ := a
  obtain ⟨b1, b2, b3, b4, b5⟩ := b
  unfold cVal
  go_enter Tryz.func55, Tryz.ntmps55
  go_wp2_with (first | (go_at_call 48; refine (cmp48 _ _ _).mono ?_; rintro e w' ⟨rfl, rfl⟩))
  go_ret
  exact ⟨rfl, ((Grows.refl w).alloc _).alloc _⟩
theorem g56 : Calls Tryz.prog 56 #[cVal a, cVal b] w (GrowPost (scmp a.name b.name) w) := by
  obtain ⟨a1, a2, a3, a4, a5⟩ := a
  obtain ⟨b1, b2, b3, b4, b5⟩ := b
  unfold cVal
  go_enter Tryz.func56, Tryz.ntmps56
  go_wp2_with (first | (go_at_call 57; refine (cmp57 _ _ _).mono ?_; rintro e w' ⟨rfl, rfl⟩))
  go_ret
  exact ⟨rfl, ((Grows.refl w).alloc _).alloc _⟩
theorem g58 : Calls Tryz.prog 58 #[cVal a, cVal b] w (GrowPost (icmp b.amt a.amt) w) := by
  obtain ⟨a1, a2, a3, a4, a5⟩ := a
  obtain ⟨b1, b2, b3, b4, b5⟩ := b
  unfold cVal
  go_enter Tryz.func58, Tryz.ntmps58
  go_wp2_with (first | (go_at_call 59; refine (cmp59 _ _ _).mono ?_; rintro e w' ⟨rfl, rfl⟩))
  go_ret
  exact ⟨rfl, ((Grows.refl w).alloc _).alloc _⟩
theorem g60 : Calls Tryz.prog 60 #[cVal a, cVal b] w (GrowPost (scmp a.thing b.thing) w) := by
  obtain ⟨a1, a2, a3, a4, a5⟩ := a
  obtain ⟨b1, b2, b3, b4, b5⟩ := b
  unfold cVal
  go_enter Tryz.func60, Tryz.ntmps60
  go_wp2_with (first | (go_at_call 57; refine (cmp57 _ _ _).mono ?_; rintro e w' ⟨rfl, rfl⟩))
  go_ret
  exact ⟨rfl, ((Grows.refl w).alloc _).alloc _⟩
def tRight : ByteArray := ⟨#[114, 105, 103, 104, 116]⟩
def tDay : ByteArray := ⟨#[100, 97, 121]⟩
def tName : ByteArray := ⟨#[110, 97, 109, 101]⟩
def tAmount : ByteArray := ⟨#[97, 109, 111, 117, 110, 116]⟩
def tThing : ByteArray := ⟨#[116, 104, 105, 110, 103]⟩
def tSame : ByteArray := ⟨#[115, 97, 109, 101]⟩
def gCells : Array Value := #[.string tRight, .func (.func 54) #[] #[], .string tDay, .func (.func 55) #[] #[], .string tName, .func (.func 56) #[] #[], .string tAmount, .func (.func 58) #[] #[], .string tThing, .func (.func 60) #[] #[]]
def GroundsPost (w : World) (e : Ending) (w' : World) : Prop := e = .returned (.slice (some ⟨w.heap.size, 0, none⟩) 5 5) ∧ w' = w.alloc (.cells gCells 72)
theorem grounds_any : Calls Tryz.prog 35 #[] w (GroundsPost w) := by
  go_enter Tryz.func35, Tryz.ntmps35
  go_wp2
  go_ret
  exact ⟨rfl, rfl⟩
end
end Go.Proofs.YteecfjkljmmecaaGreat
