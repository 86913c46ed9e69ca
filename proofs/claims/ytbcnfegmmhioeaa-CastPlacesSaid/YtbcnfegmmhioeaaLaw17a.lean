/- The laws' bound on classes, walked; two rows of numbers of 16 bits. -/
import Derived.Test.YtbcnfegmmhioeaaCast1
namespace Go.Proofs.Ytbcnfegmmhioeaa
open Go.RowKit

def pathSum (T : List EntM) : Nat := (T.map fun x => x.path.size).sum
def smallC (C : ClsM) : Bool := decide (C.tree.length ≤ 60) && decide (pathSum C.tree ≤ 2000) && decide (C.args.length ≤ 60)
theorem pathSum_succ {T : List EntM} {k : Nat} {x : EntM} (h : T[k]? = some x) : pathSum (T.take (k + 1)) = pathSum (T.take k) + x.path.size := by
  unfold pathSum
  rw [List.take_add_one, h, List.map_append, List.sum_append]
  simp
theorem pathSum_le {T : List EntM} {x : EntM} (h : x ∈ T) : x.path.size ≤ pathSum T := by
  unfold pathSum
  induction T with
  | nil => cases h
  | cons y T ih =>
    simp only [List.map_cons, List.sum_cons]
    rcases List.mem_cons.1 h with rfl | h
    · omega
    · have := ih h; omega
theorem pathSum_bd {B : Nat} : ∀ {T : List EntM}, (∀ x ∈ T, x.path.size ≤ B) → pathSum T ≤ T.length * B
  | [], _ => by simp [pathSum]
  | y :: T, h => by
    have h1 := h y List.mem_cons_self
    have h2 := pathSum_bd (T := T) fun x hx => h x (List.mem_cons_of_mem _ hx)
    unfold pathSum at h2 ⊢
    simp only [List.map_cons, List.sum_cons, List.length_cons]
    rw [Nat.add_mul]
    omega

set_option maxRecDepth 100000 in
theorem small17_far {w : World} (A : Option Addr) (c : Nat) (B : Option Addr) (d : Nat) (C : ClsM) (h : IsCls w A B C) (hl : C.tree.length ≤ 9223372036854775807) (hg : 60 < C.tree.length) :
    Calls Try.prog 29 #[clsV A c B d C] w fun e w' => e = .returned (.bool false) ∧ Below w.heap.size w w' := by
  have hb0 : Below w.heap.size w (w.alloc (clsO A c B d C)) := (Below.refl _ _).alloc (Nat.le_refl _) _
  have hbox : (w.alloc (clsO A c B d C)).heap[w.heap.size]? = some (clsO A c B d C) := blk_new _ _
  obtain ⟨sP, p0, p1, p2, p3, p4⟩ := cls_at hbox
  have HA := Lib.hid (h.tree.below hb0)
  have HB0 := Lib.hid hb0
  have hlI : (C.tree.length : Int) ≤ 9223372036854775807 := by omega
  have hgI : ¬ (C.tree.length : Int) ≤ 60 := by omega
  have hgB : decide ((C.tree.length : Int) ≤ 60) = false := by simpa using hgI
  clear hbox h hb0
  go_enter Try.func29, Try.ntmps29
  go_wp2_with fail
  go_loopw [3, 4] (fun z x wr => ∃ (y : Int) (k : Nat), z = .int .i64 y ∧ x = .int .i64 k ∧ k ≤ C.tree.length ∧ wr = w.alloc (clsO A c B d C)) (fun z x wr => C.tree.length - (intOf x).toNat)
  case atStart => exact ⟨0, 0, rfl, rfl, Nat.zero_le _, rfl⟩
  case round =>
    obtain ⟨y, k, rfl, rfl, hk, rfl⟩ := hrel
    by_cases hlt : k < C.tree.length
    · have hltI : (k : Int) < C.tree.length := by omega
      obtain ⟨x, hx⟩ : ∃ x, C.tree[k]? = some x := ⟨C.tree[k], List.getElem?_eq_getElem hlt⟩
      obtain ⟨b1, o1, rfl, hs1, hc1⟩ := HA.out.at_ hx
      have d1 : ∀ W [SameB (w.alloc (clsO (some ⟨b1, o1, none⟩) c B d C)) W b1], W.cell? ⟨b1, o1 + k * 3, none⟩ = some (.string x.path) := fun W _ => by simpa using hc1 W 0 _ rfl
      clear hc1 hx
      go_wp2_with fail
      go_roundw
      case rel => exact ⟨_, k + 1, rfl, by go_num, by omega, trivial⟩
      case measure => simp [intOf]; omega
    · have hltI : ¬ (k : Int) < C.tree.length := by omega
      go_wp2_with fail
      go_ret
      exact ⟨rfl, HB0.out⟩

set_option maxRecDepth 100000 in
theorem small17_near {w : World} (A : Option Addr) (c : Nat) (B : Option Addr) (d : Nat) (C : ClsM) (h : IsCls w A B C) (hl : C.tree.length ≤ 60) (hp : ∀ x ∈ C.tree, x.path.size ≤ 140737488351232) :
    Calls Try.prog 29 #[clsV A c B d C] w fun e w' => e = .returned (.bool (smallC C)) ∧ Below w.heap.size w w' := by
  have hb0 : Below w.heap.size w (w.alloc (clsO A c B d C)) := (Below.refl _ _).alloc (Nat.le_refl _) _
  have hbox : (w.alloc (clsO A c B d C)).heap[w.heap.size]? = some (clsO A c B d C) := blk_new _ _
  obtain ⟨sP, p0, p1, p2, p3, p4⟩ := cls_at hbox
  have HA := Lib.hid (h.tree.below hb0)
  have HB0 := Lib.hid hb0
  have hlI : (C.tree.length : Int) ≤ 60 := by omega
  have hsum : ∀ k, pathSum (C.tree.take k) ≤ 60 * 140737488351232 := fun k => by
    have h1 := pathSum_bd (T := C.tree.take k) (B := 140737488351232) fun x hx => hp x (List.mem_of_mem_take hx)
    have h2 : (C.tree.take k).length ≤ 60 := by rw [List.length_take]; omega
    exact Nat.le_trans h1 (Nat.mul_le_mul_right _ h2)
  have HS := Lib.hid hsum
  have HP := Lib.hid hp
  unfold smallC
  clear hbox h hb0 hsum hp
  go_enter Try.func29, Try.ntmps29
  go_wp2_with fail
  go_loopw [3, 4] (fun z x wr => ∃ (k : Nat), z = .int .i64 (pathSum (C.tree.take k)) ∧ x = .int .i64 k ∧ k ≤ C.tree.length ∧ wr = w.alloc (clsO A c B d C)) (fun z x wr => C.tree.length - (intOf x).toNat)
  case atStart => exact ⟨0, rfl, rfl, Nat.zero_le _, rfl⟩
  case round =>
    obtain ⟨k, rfl, rfl, hk, rfl⟩ := hrel
    by_cases hlt : k < C.tree.length
    · have hltI : (k : Int) < C.tree.length := by omega
      obtain ⟨x, hx⟩ : ∃ x, C.tree[k]? = some x := ⟨C.tree[k], List.getElem?_eq_getElem hlt⟩
      obtain ⟨b1, o1, rfl, hs1, hc1⟩ := HA.out.at_ hx
      have d1 : ∀ W [SameB (w.alloc (clsO (some ⟨b1, o1, none⟩) c B d C)) W b1], W.cell? ⟨b1, o1 + k * 3, none⟩ = some (.string x.path) := fun W _ => by simpa using hc1 W 0 _ rfl
      have hsu := pathSum_succ hx
      have q1 := HS.out k
      have q2 := HP.out x (List.mem_of_getElem? hx)
      have q1I : (pathSum (C.tree.take k) : Int) ≤ 8444249301073920 := by omega
      have q2I : (x.path.size : Int) ≤ 140737488351232 := by omega
      have HSU := Lib.hid hsu
      clear hc1 hx hsu q1 q2
      go_wp2_with fail
      go_roundw
      case rel => exact ⟨k + 1, by rw [HSU.out]; go_num, by go_num, by omega, trivial⟩
      case measure => simp [intOf]; omega
    · have hltI : ¬ (k : Int) < C.tree.length := by omega
      have htk : C.tree.take k = C.tree := List.take_of_length_le (by omega)
      rw [htk]
      clear HS HP htk
      by_cases hs : pathSum C.tree ≤ 2000
      · have hsI : (pathSum C.tree : Int) ≤ 2000 := by omega
        by_cases ha : C.args.length ≤ 60
        · have haI : (C.args.length : Int) ≤ 60 := by omega
          go_wp2_with fail
          go_ret
          exact ⟨by simp, HB0.out⟩
        · have haI : ¬ (C.args.length : Int) ≤ 60 := by omega
          go_wp2_with fail
          go_ret
          exact ⟨by simp, HB0.out⟩
      · have hsI : ¬ (pathSum C.tree : Int) ≤ 2000 := by omega
        go_wp2_with fail
        go_ret
        exact ⟨by simp, HB0.out⟩

theorem small17_any {w : World} (A : Option Addr) (c : Nat) (B : Option Addr) (d : Nat) (C : ClsM) (h : IsCls w A B C) (hl : C.tree.length ≤ 9223372036854775807) (hp : ∀ x ∈ C.tree, x.path.size ≤ 140737488351232) :
    Calls Try.prog 29 #[clsV A c B d C] w fun e w' => e = .returned (.bool (smallC C)) ∧ Below w.heap.size w w' := by
  by_cases h60 : C.tree.length ≤ 60
  · exact small17_near A c B d C h h60 hp
  · have : smallC C = false := by unfold smallC; simp [h60]
    rw [this]
    exact small17_far A c B d C h hl (by omega)
theorem smallC_ok {w : World} {A B : Option Addr} {C : ClsM} (h : IsCls w A B C) (hs : smallC C = true) : ClsOK w A B C := by
  unfold smallC at hs
  simp only [Bool.and_eq_true, decide_eq_true_eq] at hs
  exact ⟨h, by omega, by omega, fun x hx => by have := pathSum_le hx; omega⟩
end Go.Proofs.Ytbcnfegmmhioeaa
