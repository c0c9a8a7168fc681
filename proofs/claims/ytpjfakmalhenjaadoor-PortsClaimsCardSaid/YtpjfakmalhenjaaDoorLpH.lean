/- The book of leases: All, keep, Leave. -/
import Derived.Test.YtpjfakmalhenjaaDoorLpG
import Derived.StillTailTactics
set_option linter.unusedVariables false
namespace Go.Proofs.YtpjfakmalhenjaaDoor
open Go.RowKit Go.Sub Go.ChangeMaps
theorem mset_same {κ V : Type} [DecidableEq κ] : ∀ {M : List (κ × V)} {x : κ} {v : V}, mget M x = some v → mset M x v = M
  | [], _, _, h => by cases h
  | (k, u) :: M, x, v, h => by
    by_cases e : k = x
    · simp only [mget, if_pos e, Option.some.injEq] at h; subst h; simp [mset, e]
    · simp only [mget, if_neg e] at h; simp [mset, e, mset_same h]
theorem foldL_id (so : Lz → Bool) : ∀ (ns : List ByteArray) (M : LT), foldL so (fun x => x) ns M = M
  | [], M => rfl
  | n :: ns, M => by
    show foldL so (fun x => x) ns (stepL so (fun x => x) M n) = M
    have : stepL so (fun x => x) M n = M := by
      unfold stepL
      split
      · rfl
      · rename_i x hx
        split
        · exact mset_same hx
        · rfl
    rw [this]
    exact foldL_id so ns M
/-- all leases, by rising names -/
def allS (M : LT) : List Lz := outL (fun _ => true) M (keysOf (M.map (·.1)))
theorem ent_all1 : Enters 35 := fun _ _ => by go_simp
theorem ent_all2 : Enters 36 := fun _ _ => by go_simp
set_option maxHeartbeats 400000 in
theorem all1_c {w : World} (v : Value) : Calls Tryd.prog 35 #[v] w (Ret (.bool true) fun w' => ∃ n, w' = w.drewN n) := by
  go_enter Tryd.func35, Tryd.ntmps35
  go_wp2_with fail
  go_ret
  exact ⟨rfl, 0, rfl⟩
set_option maxHeartbeats 400000 in
theorem all2_c {w : World} (v : Value) : Calls Tryd.prog 36 #[v] w (Ret (.tuple #[]) fun w' => w = w') := by
  go_enter Tryd.func36, Tryd.ntmps36
  go_wp2_with fail
  go_returns
  exact ⟨rfl, rfl⟩
/-- what has a row of leases beside the book -/
def RowEnds (b : Nat) (g m e : Int) (M : LT) (out : List Lz) (F : Fp) (w : World) (en : Ending) (w' : World) : Prop :=
  ∃ v, Ret v (fun w' => ∃ F', (Asrt.stars [bookT b g m e M, row 34 6 encL v out]).on w' F' ∧ Upd F F' w w') en w'
set_option maxHeartbeats 1000000 in
set_option maxRecDepth 100000 in
theorem all_c {b : Nat} {g m e : Int} {M : LT} {w : World} {F : Fp} (hM : (bookT b g m e M).on w F) (hnd : (M.map (·.1)).Nodup) (hsz : ∀ p ∈ M, p.1.size ≤ maxLen) (hlen : M.length ≤ 1000) :
    Calls Tryd.prog 21 #[.pointer (some ⟨b, 0, none⟩)] w (RowEnds b g m e M (allS M) F w) := by
  have C := some_c hM hnd hsz hlen ent_all1 ent_all2 (cs := #[]) (cd := #[]) (fun _ => true) (fun x => x) (fun M' w' F' nm cb x _ _ _ => all1_c _) (fun M' w' F' nm cb x hB hL _ _ _ => by
    refine (all2_c _).mono ?_
    rintro e w'' ⟨rfl, rfl⟩
    obtain ⟨Fi, h1, h2, h3⟩ := hL
    obtain ⟨F'', h4, h5⟩ := h3 w' Fi x h1 (Upd.refl Fi w')
    exact ⟨rfl, F'', h4, h5⟩)
  unfold SomeEnds at C
  rw [foldL_id] at C
  replace C := Keep.mk C
  unfold RowEnds allS
  clear hM hnd hsz
  go_enter Tryd.func21, Tryd.ntmps21
  go_wp2_with fail
  refine C.out.mono ?_
  rintro e1 w1 ⟨v, rfl, F', h', u'⟩
  go_wp2_with fail
  go_ret
  exact ⟨v, rfl, F', h', u'⟩
/-- kept alone, up to a time -/
abbrev keptL (x : Lz) (til : Int) : Lz := { x with held := false, til := til }
set_option maxHeartbeats 1000000 in
set_option maxRecDepth 100000 in
theorem keep_c {cb : Nat} {x : Lz} {w : World} {Fi : Fp} (h : (Asrt.blk cb (blkL x)).on w Fi) (til : Int) :
    Calls Tryd.prog 39 #[.pointer (some ⟨cb, 0, none⟩), .int .i64 til] w (Ret (.tuple #[]) fun w' => (Asrt.blk cb (blkL (keptL x til))).on w' Fi ∧ Upd Fi Fi w w') := by
  obtain ⟨B1, v1⟩ := blk_set h 5 (.bool false)
  obtain ⟨B2, v2⟩ := blk_set B1 4 (.int .i64 til)
  obtain ⟨hc, hf, hl⟩ := blk_facts h.1
  have hf4 := hf 4
  have hf5 := hf 5
  have k4 := hc 4
  have k5 := hc 5
  have HB := Keep.mk (And.intro (show (Asrt.blk cb (blkL (keptL x til))).on _ Fi from B2) (v1.trans v2))
  clear B1 B2 v1 v2 h hc hf
  go_enter Tryd.func39, Tryd.ntmps39
  go_wp2_with fail
  go_returns
  exact ⟨rfl, HB.out⟩
/-- does it leave? -/
def soLeave (conn now : Int) (x : Lz) : Bool := (x.conn == conn) && (x.held && decide (now < x.til))
end Go.Proofs.YtpjfakmalhenjaaDoor
