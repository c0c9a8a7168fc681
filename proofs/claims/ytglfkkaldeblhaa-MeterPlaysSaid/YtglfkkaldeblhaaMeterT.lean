/- The meter and the document's: what they have is the same. Plain. -/
import Derived.Test.YtglfkkaldeblhaaMeterM
import Derived.Test.YtglfkkaldeblhaaMeterR
namespace Go.Proofs.Ytglfkkaldeblhaa
open Go.RowKit Go.Sub
def blt (x y : ByteArray) : Bool := Op.bytesLess x.toList y.toList
theorem blt_iff {x y : ByteArray} : blt x y = true ↔ x.data.toList < y.data.toList := by
  rw [blt, Go.Proofs.bytesLess_eq, ByteArray.toList_eq, ByteArray.toList_eq, decide_eq_true_eq]
theorem blt_irrefl (x : ByteArray) : blt x x = false := bl_irrefl _
theorem blt_trans {x y z : ByteArray} (h : blt x y = true) (h' : blt y z = true) : blt x z = true := blt_iff.2 (List.lt_trans (blt_iff.1 h) (blt_iff.1 h'))
theorem blt_tri {x y : ByteArray} (h : blt x y = false) (hn : x ≠ y) : blt y x = true := by
  rw [blt_iff]
  have h1 : ¬ x.data.toList < y.data.toList := fun q => by rw [blt_iff.2 q] at h; cases h
  exact Classical.byContradiction fun h2 => hn (WideShapes.bytes_inj (List.le_antisymm (List.not_lt.1 h2) (List.not_lt.1 h1)))
structure Twin (M L : List Cnt) : Prop where
  perm : L.Perm M
  rise : L.Pairwise fun x y => blt x.t y.t = true
theorem Twin.nodup {M L : List Cnt} (h : Twin M L) : (L.map (·.t)).Nodup := by
  rw [List.Nodup, List.pairwise_map]
  exact h.rise.imp fun {a b} h e => by rw [e, blt_irrefl] at h; cases h
theorem find_mem {M : List Cnt} (h : (M.map (·.t)).Nodup) {t : ByteArray} {c : Cnt} : (M.find? fun x => x.t = t) = some c ↔ c ∈ M ∧ c.t = t := by
  constructor
  · intro e
    exact ⟨List.mem_of_find?_eq_some e, by simpa using List.find?_some e⟩
  · rintro ⟨h1, rfl⟩
    induction M with
    | nil => cases h1
    | cons x M ih =>
      rw [List.map_cons, List.nodup_cons] at h
      rcases List.mem_cons.1 h1 with rfl | h1
      · simp
      · have : ¬ x.t = c.t := fun e => h.1 (e ▸ List.mem_map_of_mem (f := fun x : Cnt => x.t) h1)
        rw [List.find?_cons, decide_eq_false this]
        exact ih h.2 h1
theorem Twin.find {M L : List Cnt} (h : Twin M L) (t : ByteArray) : (L.find? fun x => x.t = t) = M.find? fun x => x.t = t := by
  have hl := h.nodup
  have hm : (M.map (·.t)).Nodup := ((h.perm.map (·.t)).nodup_iff).1 hl
  apply Option.ext
  intro c
  rw [find_mem hl, find_mem hm, h.perm.mem_iff]
theorem Twin.all {M L : List Cnt} (h : Twin M L) (hm : (M.map (·.t)).Nodup) : allOf M = L := by
  have hp : (allOf M).Perm L := (allOf_perm hm).trans h.perm.symm
  have hr : (allOf M).Pairwise fun x y => blt x.t y.t = true := allOf_rise hm
  refine List.Perm.eq_of_pairwise (le := fun x y : Cnt => blt x.t y.t = true) (fun a b _ _ h1 h2 => ?_) hr h.rise hp
  have := blt_trans h1 h2
  rw [blt_irrefl] at this
  cases this
/-- where a count goes -/
def ins (c : Cnt) (L : List Cnt) : List Cnt := L.takeWhile (fun x => blt x.t c.t) ++ c :: (L.dropWhile fun x => blt x.t c.t).filter fun x => x.t ≠ c.t
theorem pfold_done (c : Cnt) : ∀ (L : List Cnt) (A : List Cnt) (T : Bool), L.foldl (pstep c) (A, true, T) = (A ++ L.filter (fun x => x.t ≠ c.t), true, T || L.any fun x => x.t = c.t)
  | [], A, T => by simp
  | x :: L, A, T => by
    rw [List.foldl_cons]
    by_cases e : x.t = c.t
    · have : pstep c (A, true, T) x = (A, true, true) := by simp [pstep, e]
      rw [this, pfold_done c L A true]
      simp [e]
    · have : pstep c (A, true, T) x = (A ++ [x], true, T) := by simp [pstep, e]
      rw [this, pfold_done c L _ T]
      simp [e, List.append_assoc]
theorem pfold_not (c : Cnt) : ∀ (L : List Cnt) (A : List Cnt), ∃ B D T, L.foldl (pstep c) (A, false, false) = (B, D, T) ∧ (if D = true then B else B ++ [c]) = A ++ ins c L ∧ T = L.any fun x => x.t = c.t
  | [], A => ⟨A, false, false, rfl, by simp [ins], by simp⟩
  | x :: L, A => by
    rw [List.foldl_cons]
    by_cases hb : blt x.t c.t = true
    · have e : ¬ x.t = c.t := fun h => by rw [h, blt_irrefl] at hb; cases hb
      have hg : geB x.t c.t = false := by
        have : Op.bytesLess x.t.toList c.t.toList = true := hb
        simp [geB, this]
      have h1 : pstep c (A, false, false) x = (A ++ [x], false, false) := by simp only [pstep, hg]; simp [e]
      obtain ⟨B, D, T, h2, h3, h4⟩ := pfold_not c L (A ++ [x])
      refine ⟨B, D, T, by rw [h1]; exact h2, ?_, ?_⟩
      · rw [h3, ins, ins, List.takeWhile_cons, List.dropWhile_cons, hb]
        simp [List.append_assoc]
      · rw [h4]; simp [e]
    · have hb' : blt x.t c.t = false := Bool.eq_false_iff.2 hb
      have hg : geB x.t c.t = true := by
        have : Op.bytesLess x.t.toList c.t.toList = false := hb'
        simp [geB, this]
      have hi : ins c (x :: L) = c :: (x :: L).filter fun y => y.t ≠ c.t := by
        rw [ins, List.takeWhile_cons, List.dropWhile_cons, hb']
        rfl
      by_cases e : x.t = c.t
      · have h1 : pstep c (A, false, false) x = (A ++ [c], true, true) := by simp only [pstep, hg]; simp [e]
        rw [h1, pfold_done]
        refine ⟨_, _, _, rfl, ?_, ?_⟩
        · rw [hi]; simp [e]
        · simp [e]
      · have h1 : pstep c (A, false, false) x = (A ++ [c] ++ [x], true, false) := by simp only [pstep, hg]; simp [e]
        rw [h1, pfold_done]
        refine ⟨_, _, _, rfl, ?_, ?_⟩
        · rw [hi]; simp [e]
        · simp [e]
theorem rput_eq (L : List Cnt) (c : Cnt) : rput L c = if (L.any fun x => x.t = c.t) = false ∧ 64 ≤ L.length then (L, 2) else (ins c L, 0) := by
  obtain ⟨B, D, T, h1, h2, h3⟩ := pfold_not c L []
  have h1 : pfold c L = (B, D, T) := h1
  rw [List.nil_append] at h2
  rw [rput, h1]
  simp only
  rw [h3, h2]
theorem ins_perm (c : Cnt) (L : List Cnt) : (ins c L).Perm (c :: L.filter fun x => x.t ≠ c.t) := by
  have e : L.filter (fun x => x.t ≠ c.t) = L.takeWhile (fun x => blt x.t c.t) ++ (L.dropWhile fun x => blt x.t c.t).filter fun x => x.t ≠ c.t := by
    conv => lhs; rw [← List.takeWhile_append_dropWhile (p := fun x : Cnt => blt x.t c.t) (l := L), List.filter_append]
    congr 1
    refine List.filter_eq_self.2 fun x hx => ?_
    have := List.all_eq_true.1 (List.all_takeWhile (p := fun x : Cnt => blt x.t c.t) (l := L)) x hx
    have hne : x.t ≠ c.t := fun h => by rw [h, blt_irrefl] at this; cases this
    simpa using hne
  rw [e, ins]
  exact List.perm_middle
theorem ins_rise (c : Cnt) {L : List Cnt} (h : L.Pairwise fun x y => blt x.t y.t = true) : (ins c L).Pairwise fun x y => blt x.t y.t = true := by
  induction L with
  | nil => simp [ins]
  | cons x L ih =>
    rw [List.pairwise_cons] at h
    obtain ⟨h1, h2⟩ := h
    by_cases hb : blt x.t c.t = true
    · have e : ins c (x :: L) = x :: ins c L := by
        rw [ins, ins, List.takeWhile_cons, List.dropWhile_cons, hb]; rfl
      rw [e, List.pairwise_cons]
      refine ⟨fun y hy => ?_, ih h2⟩
      rcases List.mem_cons.1 ((ins_perm c L).mem_iff.1 hy) with rfl | hy
      · exact hb
      · exact h1 y (List.mem_filter.1 hy).1
    · have hb' : blt x.t c.t = false := Bool.eq_false_iff.2 hb
      have e : ins c (x :: L) = c :: (x :: L).filter fun y => y.t ≠ c.t := by
        rw [ins, List.takeWhile_cons, List.dropWhile_cons, hb']; rfl
      rw [e, List.pairwise_cons]
      refine ⟨fun y hy => ?_, (List.pairwise_cons.2 ⟨h1, h2⟩).filter _⟩
      obtain ⟨hy, hne⟩ := List.mem_filter.1 hy
      have hne : y.t ≠ c.t := by simpa using hne
      rcases List.mem_cons.1 hy with rfl | hy
      · exact blt_tri hb' hne
      · by_cases hx : x.t = c.t
        · rw [← hx]; exact h1 y hy
        · exact blt_trans (blt_tri hb' hx) (h1 y hy)
theorem cupd_perm {M : List Cnt} (hm : (M.map (·.t)).Nodup) {t : ByteArray} {f : Cnt → Cnt} {c : Cnt} (h : (M.find? fun x => x.t = t) = some c) : (cupd M t f).Perm (f c :: M.filter fun x => x.t ≠ t) := by
  induction M with
  | nil => simp at h
  | cons x M ih =>
    rw [List.map_cons, List.nodup_cons] at hm
    by_cases e : x.t = t
    · rw [List.find?_cons, decide_eq_true e] at h
      cases h
      have hf : M.filter (fun y => y.t ≠ t) = M := List.filter_eq_self.2 fun y hy => by
        have : y.t ≠ t := fun q => hm.1 (by rw [e, ← q]; exact List.mem_map_of_mem (f := fun x : Cnt => x.t) hy)
        simpa using this
      rw [cupd, if_pos e, List.filter_cons, if_neg (by simp [e]), hf]
    · rw [List.find?_cons, decide_eq_false e] at h
      rw [cupd, if_neg e, List.filter_cons, if_pos (by simp [e])]
      exact ((ih hm.2 h).cons x).trans (List.Perm.swap ..)
/-- A call of both: the answers are alike, and so is what they have. -/
theorem twin_step {M L : List Cnt} (h : Twin M L) (hI : MInv M) (t : ByteArray) (j : Nat) (n : Int) : Twin (cstep M t j n).1 (rstep L t j n).1 ∧ (cstep M t j n).2 = (rstep L t j n).2 := by
  have hf := h.find t
  have hc : cof L t = cof M t := by rw [cof, cof, hf]
  have hlen : L.length = M.length := h.perm.length_eq
  have hbt : (bump j n (cof M t)).t = t := by rw [bump_t]; exact cof_t M t
  unfold cstep rstep
  by_cases hn : n < 0
  · rw [if_pos hn, if_pos hn]
    exact ⟨h, rfl⟩
  · rw [if_neg hn, if_neg hn, hc, rput_eq, hbt]
    have hany : (L.any fun x => x.t = t) = (M.find? fun c => c.t = t).isSome := by
      rw [← hf, Bool.eq_iff_iff, List.find?_isSome, List.any_eq_true]
    rw [hany]
    cases hq : M.find? fun c => c.t = t with
    | some c =>
      have hcc : cof M t = c := by rw [cof, hq]; rfl
      rw [if_pos (show (some c : Option Cnt).isSome = true from rfl), if_neg (by simp)]
      refine ⟨⟨?_, ins_rise _ h.rise⟩, rfl⟩
      refine (ins_perm _ _).trans (((h.perm.filter _).cons _).trans ?_)
      rw [hbt, hcc]
      exact (cupd_perm hI.once hq).symm
    | none =>
      rw [if_neg (by simp)]
      by_cases h64 : M.length = 64
      · rw [if_pos h64, if_pos ⟨rfl, by omega⟩]
        exact ⟨h, rfl⟩
      · have := hI.few
        rw [if_neg h64, if_neg (by simp; omega)]
        refine ⟨⟨?_, ins_rise _ h.rise⟩, rfl⟩
        refine (ins_perm _ _).trans (((h.perm.filter _).cons _).trans ?_)
        have hnt := find_none_iff.1 (by rw [hq]; rfl : (M.find? fun c => c.t = t).isSome = false)
        have hfl : M.filter (fun x => x.t ≠ (bump j n (cof M t)).t) = M := List.filter_eq_self.2 fun y hy => by
          rw [hbt]
          have : y.t ≠ t := fun q => hnt (by rw [← q]; exact List.mem_map_of_mem (f := fun x : Cnt => x.t) hy)
          simpa using this
        rw [hfl]
        have hcz : cof M t = ⟨t, 0, 0, 0⟩ := by rw [cof, hq]; rfl
        rw [hcz]
        exact (List.perm_append_comm (l₁ := M) (l₂ := [_])).symm
end Go.Proofs.Ytglfkkaldeblhaa
