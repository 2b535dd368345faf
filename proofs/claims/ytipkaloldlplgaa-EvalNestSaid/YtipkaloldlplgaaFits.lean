/-
  Which instructions may be, and which are local: the program's functions and the reference's.
-/
import Derived.Test.YtipkaloldlplgaaShape
set_option linter.unusedVariables false
namespace Go.Proofs.Ytipkaloldlplgaa
open Go.RowKit
def fitM (k : Int) : Int := if 1 ≤ k ∧ k ≤ 3 then 3 else if k = 4 then 1 else 0
def fitB (k v : Int) : Bool := decide (0 ≤ v ∧ v ≤ fitM k)
set_option maxHeartbeats 1600000 in
theorem fits_any (k v : Int) (w : World) (hk : 0 ≤ k) (hk4 : k ≤ 4) : Calls Try.prog 23 #[.int .i64 k, .int .i64 v] w fun e w' => e = .returned (.bool (fitB k v)) ∧ w = w' := by
  have : k = 0 ∨ k = 1 ∨ k = 2 ∨ k = 3 ∨ k = 4 := by omega
  rcases this with rfl | rfl | rfl | rfl | rfl
  · by_cases h0 : 0 ≤ v
    · by_cases h1 : v ≤ 0
      · have hb : fitB 0 v = true := decide_eq_true ⟨h0, h1⟩
        rw [hb]
        clear hb
        go_enter Try.func23, Try.ntmps23
        go_wp2_with fail
        go_ret
        exact ⟨rfl, rfl⟩
      · have hb : fitB 0 v = false := decide_eq_false (fun h => h1 h.2)
        rw [hb]
        clear hb
        go_enter Try.func23, Try.ntmps23
        go_wp2_with fail
        go_ret
        exact ⟨rfl, rfl⟩
    · have hb : fitB 0 v = false := decide_eq_false (fun h => h0 h.1)
      rw [hb]
      clear hb
      go_enter Try.func23, Try.ntmps23
      go_wp2_with fail
      go_ret
      exact ⟨rfl, rfl⟩
  · by_cases h0 : 0 ≤ v
    · by_cases h1 : v ≤ 3
      · have hb : fitB 1 v = true := decide_eq_true ⟨h0, h1⟩
        rw [hb]
        clear hb
        go_enter Try.func23, Try.ntmps23
        go_wp2_with fail
        go_ret
        exact ⟨rfl, rfl⟩
      · have hb : fitB 1 v = false := decide_eq_false (fun h => h1 h.2)
        rw [hb]
        clear hb
        go_enter Try.func23, Try.ntmps23
        go_wp2_with fail
        go_ret
        exact ⟨rfl, rfl⟩
    · have hb : fitB 1 v = false := decide_eq_false (fun h => h0 h.1)
      rw [hb]
      clear hb
      go_enter Try.func23, Try.ntmps23
      go_wp2_with fail
      go_ret
      exact ⟨rfl, rfl⟩
  · by_cases h0 : 0 ≤ v
    · by_cases h1 : v ≤ 3
      · have hb : fitB 2 v = true := decide_eq_true ⟨h0, h1⟩
        rw [hb]
        clear hb
        go_enter Try.func23, Try.ntmps23
        go_wp2_with fail
        go_ret
        exact ⟨rfl, rfl⟩
      · have hb : fitB 2 v = false := decide_eq_false (fun h => h1 h.2)
        rw [hb]
        clear hb
        go_enter Try.func23, Try.ntmps23
        go_wp2_with fail
        go_ret
        exact ⟨rfl, rfl⟩
    · have hb : fitB 2 v = false := decide_eq_false (fun h => h0 h.1)
      rw [hb]
      clear hb
      go_enter Try.func23, Try.ntmps23
      go_wp2_with fail
      go_ret
      exact ⟨rfl, rfl⟩
  · by_cases h0 : 0 ≤ v
    · by_cases h1 : v ≤ 3
      · have hb : fitB 3 v = true := decide_eq_true ⟨h0, h1⟩
        rw [hb]
        clear hb
        go_enter Try.func23, Try.ntmps23
        go_wp2_with fail
        go_ret
        exact ⟨rfl, rfl⟩
      · have hb : fitB 3 v = false := decide_eq_false (fun h => h1 h.2)
        rw [hb]
        clear hb
        go_enter Try.func23, Try.ntmps23
        go_wp2_with fail
        go_ret
        exact ⟨rfl, rfl⟩
    · have hb : fitB 3 v = false := decide_eq_false (fun h => h0 h.1)
      rw [hb]
      clear hb
      go_enter Try.func23, Try.ntmps23
      go_wp2_with fail
      go_ret
      exact ⟨rfl, rfl⟩
  · by_cases h0 : 0 ≤ v
    · by_cases h1 : v ≤ 1
      · have hb : fitB 4 v = true := decide_eq_true ⟨h0, h1⟩
        rw [hb]
        clear hb
        go_enter Try.func23, Try.ntmps23
        go_wp2_with fail
        go_ret
        exact ⟨rfl, rfl⟩
      · have hb : fitB 4 v = false := decide_eq_false (fun h => h1 h.2)
        rw [hb]
        clear hb
        go_enter Try.func23, Try.ntmps23
        go_wp2_with fail
        go_ret
        exact ⟨rfl, rfl⟩
    · have hb : fitB 4 v = false := decide_eq_false (fun h => h0 h.1)
      rw [hb]
      clear hb
      go_enter Try.func23, Try.ntmps23
      go_wp2_with fail
      go_ret
      exact ⟨rfl, rfl⟩
set_option maxHeartbeats 1600000 in
theorem field_any (k v : Int) (w : World) (hk : 0 ≤ k) (hk4 : k ≤ 4) : Calls Try.prog 25 #[.int .i64 k, .int .i64 v] w fun e w' => e = .returned (.bool (fitB k v)) ∧ Below w.heap.size w w' := by
  have : k = 0 ∨ k = 1 ∨ k = 2 ∨ k = 3 ∨ k = 4 := by omega
  rcases this with rfl | rfl | rfl | rfl | rfl
  · by_cases h0 : 0 ≤ v
    · by_cases h1 : v ≤ 0
      · have hb : fitB 0 v = true := decide_eq_true ⟨h0, h1⟩
        rw [hb]
        clear hb
        go_enter Try.func25, Try.ntmps25
        go_wp2_with fail
        go_ret
        exact ⟨rfl, Bal (Bre _) _⟩
      · have hb : fitB 0 v = false := decide_eq_false (fun h => h1 h.2)
        rw [hb]
        clear hb
        go_enter Try.func25, Try.ntmps25
        go_wp2_with fail
        go_ret
        exact ⟨rfl, Bal (Bre _) _⟩
    · have hb : fitB 0 v = false := decide_eq_false (fun h => h0 h.1)
      rw [hb]
      clear hb
      go_enter Try.func25, Try.ntmps25
      go_wp2_with fail
      go_ret
      exact ⟨rfl, Bal (Bre _) _⟩
  · by_cases h0 : 0 ≤ v
    · by_cases h1 : v ≤ 3
      · have hb : fitB 1 v = true := decide_eq_true ⟨h0, h1⟩
        rw [hb]
        clear hb
        go_enter Try.func25, Try.ntmps25
        go_wp2_with fail
        go_ret
        exact ⟨rfl, Bal (Bre _) _⟩
      · have hb : fitB 1 v = false := decide_eq_false (fun h => h1 h.2)
        rw [hb]
        clear hb
        go_enter Try.func25, Try.ntmps25
        go_wp2_with fail
        go_ret
        exact ⟨rfl, Bal (Bre _) _⟩
    · have hb : fitB 1 v = false := decide_eq_false (fun h => h0 h.1)
      rw [hb]
      clear hb
      go_enter Try.func25, Try.ntmps25
      go_wp2_with fail
      go_ret
      exact ⟨rfl, Bal (Bre _) _⟩
  · by_cases h0 : 0 ≤ v
    · by_cases h1 : v ≤ 3
      · have hb : fitB 2 v = true := decide_eq_true ⟨h0, h1⟩
        rw [hb]
        clear hb
        go_enter Try.func25, Try.ntmps25
        go_wp2_with fail
        go_ret
        exact ⟨rfl, Bal (Bre _) _⟩
      · have hb : fitB 2 v = false := decide_eq_false (fun h => h1 h.2)
        rw [hb]
        clear hb
        go_enter Try.func25, Try.ntmps25
        go_wp2_with fail
        go_ret
        exact ⟨rfl, Bal (Bre _) _⟩
    · have hb : fitB 2 v = false := decide_eq_false (fun h => h0 h.1)
      rw [hb]
      clear hb
      go_enter Try.func25, Try.ntmps25
      go_wp2_with fail
      go_ret
      exact ⟨rfl, Bal (Bre _) _⟩
  · by_cases h0 : 0 ≤ v
    · by_cases h1 : v ≤ 3
      · have hb : fitB 3 v = true := decide_eq_true ⟨h0, h1⟩
        rw [hb]
        clear hb
        go_enter Try.func25, Try.ntmps25
        go_wp2_with fail
        go_ret
        exact ⟨rfl, Bal (Bre _) _⟩
      · have hb : fitB 3 v = false := decide_eq_false (fun h => h1 h.2)
        rw [hb]
        clear hb
        go_enter Try.func25, Try.ntmps25
        go_wp2_with fail
        go_ret
        exact ⟨rfl, Bal (Bre _) _⟩
    · have hb : fitB 3 v = false := decide_eq_false (fun h => h0 h.1)
      rw [hb]
      clear hb
      go_enter Try.func25, Try.ntmps25
      go_wp2_with fail
      go_ret
      exact ⟨rfl, Bal (Bre _) _⟩
  · by_cases h0 : 0 ≤ v
    · by_cases h1 : v ≤ 1
      · have hb : fitB 4 v = true := decide_eq_true ⟨h0, h1⟩
        rw [hb]
        clear hb
        go_enter Try.func25, Try.ntmps25
        go_wp2_with fail
        go_ret
        exact ⟨rfl, Bal (Bre _) _⟩
      · have hb : fitB 4 v = false := decide_eq_false (fun h => h1 h.2)
        rw [hb]
        clear hb
        go_enter Try.func25, Try.ntmps25
        go_wp2_with fail
        go_ret
        exact ⟨rfl, Bal (Bre _) _⟩
    · have hb : fitB 4 v = false := decide_eq_false (fun h => h0 h.1)
      rw [hb]
      clear hb
      go_enter Try.func25, Try.ntmps25
      go_wp2_with fail
      go_ret
      exact ⟨rfl, Bal (Bre _) _⟩
def locB (op : Int) : Bool := decide (1 ≤ op ∧ op ≤ 7 ∨ 18 ≤ op ∧ op ≤ 22)
set_option maxHeartbeats 800000 in
theorem local_any (op : Int) (w : World) : Calls Try.prog 13 #[.int .i64 op] w fun e w' => e = .returned (.bool (locB op)) ∧ w = w' := by
  by_cases h1 : op < 1
  · have hb : locB op = false := decide_eq_false (by omega)
    rw [hb]; clear hb
    go_enter Try.func13, Try.ntmps13
    go_wp2_with fail
    go_ret
    exact ⟨rfl, rfl⟩
  by_cases h2 : op ≤ 7
  · have hb : locB op = true := decide_eq_true (by omega)
    rw [hb]; clear hb
    go_enter Try.func13, Try.ntmps13
    go_wp2_with fail
    go_ret
    exact ⟨rfl, rfl⟩
  by_cases h3 : op < 18
  · have hb : locB op = false := decide_eq_false (by omega)
    rw [hb]; clear hb
    go_enter Try.func13, Try.ntmps13
    go_wp2_with fail
    go_ret
    exact ⟨rfl, rfl⟩
  by_cases h4 : op ≤ 22
  · have hb : locB op = true := decide_eq_true (by omega)
    rw [hb]; clear hb
    go_enter Try.func13, Try.ntmps13
    go_wp2_with fail
    go_ret
    exact ⟨rfl, rfl⟩
  · have hb : locB op = false := decide_eq_false (by omega)
    rw [hb]; clear hb
    go_enter Try.func13, Try.ntmps13
    go_wp2_with fail
    go_ret
    exact ⟨rfl, rfl⟩
set_option maxHeartbeats 800000 in
theorem rlocal_any (op : Int) (w : World) : Calls Try.prog 14 #[.int .i64 op] w fun e w' => e = .returned (.bool (locB op)) ∧ w = w' := by
  by_cases h1 : op < 1
  · have hb : locB op = false := decide_eq_false (by omega)
    rw [hb]; clear hb
    go_enter Try.func14, Try.ntmps14
    go_wp2_with fail
    go_ret
    exact ⟨rfl, rfl⟩
  by_cases h2 : op ≤ 7
  · have hb : locB op = true := decide_eq_true (by omega)
    rw [hb]; clear hb
    go_enter Try.func14, Try.ntmps14
    go_wp2_with fail
    go_ret
    exact ⟨rfl, rfl⟩
  by_cases h3 : op < 18
  · have hb : locB op = false := decide_eq_false (by omega)
    rw [hb]; clear hb
    go_enter Try.func14, Try.ntmps14
    go_wp2_with fail
    go_ret
    exact ⟨rfl, rfl⟩
  by_cases h4 : op ≤ 22
  · have hb : locB op = true := decide_eq_true (by omega)
    rw [hb]; clear hb
    go_enter Try.func14, Try.ntmps14
    go_wp2_with fail
    go_ret
    exact ⟨rfl, rfl⟩
  · have hb : locB op = false := decide_eq_false (by omega)
    rw [hb]; clear hb
    go_enter Try.func14, Try.ntmps14
    go_wp2_with fail
    go_ret
    exact ⟨rfl, rfl⟩
end Go.Proofs.Ytipkaloldlplgaa
