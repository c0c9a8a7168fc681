/- May a text be a name? -/
import Derived.Test.YtpjfakmalhenjaaDoorRows
import Derived.Test.YtpjfakmalhenjaaDoorShelf
import Derived.Test.YtpjfakmalhenjaaDoorSubK
import Derived.Handy
set_option linter.unusedVariables false
namespace Go.Proofs.YtpjfakmalhenjaaDoor
open Go.RowKit Go.Sub Go.Shelf
abbrev letters : List UInt8 := [97, 98, 99, 100, 101, 102, 103, 104, 105, 106, 107, 108, 109, 110, 111, 112, 113, 114, 115, 116, 117, 118, 119, 120, 121, 122, 48, 49, 50, 51, 52, 53, 54, 55, 56, 57, 45]
theorem dw_nil {p : UInt8 → Bool} : ∀ {l : List UInt8}, l.dropWhile p = [] ↔ ∀ x ∈ l, p x = true
  | [] => by simp
  | y :: l => by
    cases h : p y with
    | true => rw [List.dropWhile_cons_of_pos h, dw_nil]; simp [h]
    | false => rw [List.dropWhile_cons_of_neg (by simp [h])]; simp [h]
theorem dw_head {p : UInt8 → Bool} : ∀ {l : List UInt8} {y : UInt8} {ys : List UInt8}, l.dropWhile p = y :: ys → p y = false
  | [], _, _, h => by simp at h
  | x :: l, y, ys, h => by
    cases hx : p x with
    | true => rw [List.dropWhile_cons_of_pos hx] at h; exact dw_head h
    | false => rw [List.dropWhile_cons_of_neg (by simp [hx])] at h; simp only [List.cons.injEq] at h; rw [← h.1]; exact hx
theorem dw_mem {p : UInt8 → Bool} : ∀ {l : List UInt8} {x : UInt8}, x ∈ l.dropWhile p → x ∈ l
  | [], _, h => by simp at h
  | y :: l, x, h => by
    cases hy : p y with
    | true => rw [List.dropWhile_cons_of_pos hy] at h; exact List.mem_cons_of_mem _ (dw_mem h)
    | false => rw [List.dropWhile_cons_of_neg (by simp [hy])] at h; exact h
theorem trim_nil {l cs : List UInt8} : Lib.trimS l cs = [] ↔ l.all (cs.contains ·) = true := by
  unfold Lib.trimS Lib.trimLeftS Lib.trimRightS
  rw [dw_nil, List.all_eq_true]
  constructor
  · intro h x hx
    have h2 : l.reverse.dropWhile (cs.contains ·) = [] := by
      cases hd : l.reverse.dropWhile (cs.contains ·) with
      | nil => rfl
      | cons y ys =>
        rw [hd] at h
        have h3 := h y (by simp)
        rw [dw_head hd] at h3
        cases h3
    exact dw_nil.1 h2 x (by simpa using hx)
  · intro h x hx
    have : x ∈ l.reverse := dw_mem (List.mem_reverse.1 hx)
    exact h x (by simpa using this)
/-- may that be a name? -/
def nameB (s : List UInt8) : Bool := decide (0 < s.length) && (decide (s.length ≤ 20) && (s.all (letters.contains ·) && (!(s.getD 0 0 == 45) && !(s.getD (s.length - 1) 0 == 45))))
theorem info256 : (Tryd.prog.info? 72).map (fun i => (i.zero, i.size)) = some (some (.agg (Array.replicate 256 (.bool false))), 256) := by kernel_rfl
theorem asc : ∀ (j : Nat) b, (⟨letters.toArray⟩ : ByteArray).data.toList[j]? = some b → b.toNat < 128 := ascii_of_all (by decide)
theorem upd_below {w w' : World} (h : RowKit.Below w.heap.size w w') : Quiet w w' :=
  ⟨h.os, h.tape, h.output, h.size, fun k hk _ => h.block k hk, fun k hk => hk.elim⟩
set_option maxHeartbeats 1000000 in
set_option maxRecDepth 100000 in
theorem sname_c {w : World} (s : ByteArray) (hs : s.size ≤ maxLen) : Calls Tryd.prog 19 #[.string s] w (Ret (.bool (nameB s.data.toList)) fun w' => Quiet w w') := by
  unfold maxLen at hs
  have CT := Any.strings_Trim_laid Tryd.lays160 info256 s ⟨letters.toArray⟩ w (by omega) (by decide) asc
  have hsl : s.data.toList.length = s.size := by simp
  unfold nameB
  rw [hsl]
  have hall : (s.data.toList.all (letters.contains ·)) = decide (Lib.trimS s.data.toList letters = []) := by
    rw [Bool.eq_iff_iff, decide_eq_true_eq, trim_nil]
  rw [hall]
  have hT : ((⟨(Lib.trimS s.data.toList letters).toArray⟩ : ByteArray).toList == []) = decide (Lib.trimS s.data.toList letters = []) := by
    rw [ByteArray.toList_eq, Bool.eq_iff_iff, beq_iff_eq, decide_eq_true_eq]
  have CT : Keep (Calls Tryd.prog 32 #[.string s, .string ⟨letters.toArray⟩] w fun e w' => e = .returned (.string ⟨(Lib.trimS s.data.toList letters).toArray⟩) ∧ Below w.heap.size w w') := Keep.mk CT
  generalize (⟨(Lib.trimS s.data.toList letters).toArray⟩ : ByteArray) = t at *
  generalize decide (Lib.trimS s.data.toList letters = []) = tb at *
  have hE : (s.toList == []) = decide (s.size = 0) := by
    rw [ByteArray.toList_eq, ← hsl]
    cases s.data.toList <;> simp
  by_cases h0 : s.size = 0
  · rw [decide_eq_true h0] at hE
    rw [show decide (0 < s.size) = false from by simp [h0]]
    clear h0 hall hsl
    go_enter Tryd.func19, Tryd.ntmps19
    go_wp2_with fail
    go_ret
    exact ⟨by simp, Upd.refl _ _⟩
  · rw [decide_eq_false h0] at hE
    rw [show decide (0 < s.size) = true from by simp; omega]
    by_cases h20 : s.size ≤ 20
    · have e20 : decide ((s.size : Int) ≤ 20) = true := by simp; omega
      rw [decide_eq_true h20]
      cases tb with
      | false =>
        clear h0 hall hsl h20
        go_enter Tryd.func19, Tryd.ntmps19
        go_wp2_with fail
        refine CT.out.mono ?_
        rintro e w' ⟨rfl, hb⟩
        have hq := upd_below hb
        go_wp2_with fail
        go_ret
        exact ⟨by simp, hq⟩
      | true =>
        have hI : ∀ (k : Nat), k < s.size → ∀ W : World, (Instr.index 9 (.string s) (.int .i64 (k : Int))).run Tryd.prog W = .ok (.int .u8 ((s.data.toList.getD k 0).toNat : Int)) W := by
          intro k hk W
          rw [run_index_string W 9 s .i64 k Tryd.underlying9, dif_pos ⟨by omega, by omega⟩]
          congr 3
          simp [List.getD, hk]
          rfl
        have i0 := hI 0 (by omega)
        have i1 := hI (s.size - 1) (by omega)
        rw [show ((0 : Nat) : Int) = 0 from rfl] at i0
        rw [show ((s.size - 1 : Nat) : Int) = (s.size : Int) - 1 from by omega] at i1
        have h45 : ∀ c : UInt8, ((c.toNat : Int) != 45) = !(c == 45) := by
          intro c
          rw [bne]
          congr 1
          rw [Bool.eq_iff_iff, beq_iff_eq, beq_iff_eq]
          exact ⟨fun h => UInt8.toNat_inj.1 (by have : (45 : UInt8).toNat = 45 := rfl; omega), fun h => by rw [h]; rfl⟩
        have q0 := h45 (s.data.toList.getD 0 0)
        have q1 := h45 (s.data.toList.getD (s.size - 1) 0)
        generalize s.data.toList.getD 0 0 = c0 at *
        generalize s.data.toList.getD (s.size - 1) 0 = c1 at *
        have hs1 : 1 ≤ s.size := by omega
        clear hI h45
        cases k0 : (c0 == 45) with
        | true =>
          rw [k0] at q0
          clear h0 hall hsl h20
          go_enter Tryd.func19, Tryd.ntmps19
          go_wp2_with fail
          refine CT.out.mono ?_
          rintro e w' ⟨rfl, hb⟩
          have hq := upd_below hb
          go_wp2_with fail
          go_ret
          exact ⟨by simp, hq⟩
        | false =>
          rw [k0] at q0
          cases k1 : (c1 == 45) with
          | true =>
            rw [k1] at q1
            clear h0 hall hsl h20
            go_enter Tryd.func19, Tryd.ntmps19
            go_wp2_with fail
            refine CT.out.mono ?_
            rintro e w' ⟨rfl, hb⟩
            have hq := upd_below hb
            go_wp2_with fail
            go_ret
            exact ⟨by simp, hq⟩
          | false =>
            rw [k1] at q1
            clear h0 hall hsl h20
            go_enter Tryd.func19, Tryd.ntmps19
            go_wp2_with fail
            refine CT.out.mono ?_
            rintro e w' ⟨rfl, hb⟩
            have hq := upd_below hb
            go_wp2_with fail
            go_ret
            exact ⟨by simp, hq⟩
    · have e20 : decide ((s.size : Int) ≤ 20) = false := by simp; omega
      rw [decide_eq_false h20]
      clear h0 hall hsl h20
      go_enter Tryd.func19, Tryd.ntmps19
      go_wp2_with fail
      go_ret
      exact ⟨by simp, Upd.refl _ _⟩
end Go.Proofs.YtpjfakmalhenjaaDoor
