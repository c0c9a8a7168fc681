/- Part K: bytes turned into a string; the first of a list of parts. No program's text. -/
import Derived.Test.YtpjfakmalhenjaaDoorSubJ
import Derived.Laws.BytesArg
namespace Go.Sub
/-- the string of bytes -/
def strB (L : List UInt8) : ByteArray := ⟨L.toArray⟩
theorem strB_inj {a b : List UInt8} : strB a = strB b ↔ a = b := by
  constructor
  · intro h
    have := congrArg (fun x : ByteArray => x.data.toList) h
    simpa [strB] using this
  · intro h; rw [h]
theorem strB_toList (a : List UInt8) : (strB a).data.toList = a := by simp [strB]
theorem strB_size (a : List UInt8) : (strB a).size = a.length := by simp [strB, ByteArray.size]
theorem strB_of (s : ByteArray) : strB s.data.toList = s := by cases s; simp [strB]
theorem run_text {P : Program} {src e dst : TypeId} (hs : P.underlying src = some (.slice e)) (he : P.underlying e = some (.int .u8)) (hd : P.underlying dst = some .string) {w : World} {v : Value} {L : List UInt8} (hv : Bytes w v L) :
    (convert src dst v).run P w = .ok (.string (strB L)) w := by
  obtain ⟨a, cap, rfl, hcap, hr⟩ := hv
  cases L with
  | nil =>
    rw [List.length_nil, run_convert_bytes_string w src dst e a 0 cap hs he hd]
    cases a <;> simp [Conv.bytesToString, loadCells]
    all_goals rfl
  | cons x L =>
    obtain ⟨g, off, rfl, hg, _⟩ := hr 0 x rfl
    rw [run_convert_bytes_arg w src e hs he g off (x :: L).length cap ((x :: L).map fun b => (b.toNat : Int)) (by simp) (fun i hi => by
      obtain ⟨g', off', e1, _, e2⟩ := hr i _ (List.getElem?_eq_getElem hi)
      cases e1
      rw [e2, List.getD, List.getElem?_map, List.getElem?_eq_getElem hi]
      rfl) dst hd]
    congr 2
    simp [Go.strOfNums, strB, List.map_map, Function.comp_def]
theorem Bytes.quiet {w w' : World} {v : Value} {L : List UInt8} (h : Bytes w v L) (hq : Quiet w w') : Bytes w' v L := h.upd hq fun _ _ _ h => h
namespace Asrt
theorem stars_head {A : Asrt} {l : List Asrt} {w : World} {F : Fp} (hS : (stars (A :: l)).on w F) :
    ∃ Fi, A.on w Fi ∧ (∀ k, Fi k → F k) ∧ ∀ (w' : World) (Fi' : Fp) (A' : Asrt), A'.on w' Fi' → Upd Fi Fi' w w' → ∃ F', (stars (A' :: l)).on w' F' ∧ Upd F F' w w' := by
  obtain ⟨Fi, h1, h2, h3⟩ := stars_upd _ 0 _ rfl hS
  exact ⟨Fi, h1, h2, fun w' Fi' A' h hu => h3 w' Fi' A' h hu⟩
/-- the first part has become two -/
theorem stars_split {A B : Asrt} {l : List Asrt} {w : World} {F : Fp} (hS : (stars (star A B :: l)).on w F) : (stars (B :: A :: l)).on w F :=
  stars_perm (List.Perm.swap ..) (star_assoc hS)
theorem stars_quiet {l : List Asrt} {w w' : World} {F : Fp} (hS : (stars l).on w F) (hq : Quiet w w') : (stars l).on w' F := (stars_same hS hq).1
end Asrt
/-- a call that turns the first part alone -/
theorem on_head {P : Program} {f : Nat} {args : Array Value} {v : Value} {A A' : Asrt} {l : List Asrt} {w : World} {F : Fp} (hS : (Asrt.stars (A :: l)).on w F)
    (C : ∀ Fi, A.on w Fi → (∀ k, Fi k → F k) → Calls P f args w (Ret v fun w' => ∃ F', A'.on w' F' ∧ Upd Fi F' w w')) :
    Calls P f args w (Ret v fun w' => ∃ F', (Asrt.stars (A' :: l)).on w' F' ∧ Upd F F' w w') := by
  obtain ⟨Fi, m, hs, go⟩ := Asrt.stars_head hS
  refine (C Fi m hs).mono ?_
  rintro e w' ⟨rfl, F', h', u'⟩
  exact ⟨rfl, go w' F' _ h' u'⟩
/-- a call that turns the first part, and hands something new back -/
theorem on_head_new {P : Program} {f : Nat} {args : Array Value} {T : Value → Value} {A A' : Asrt} {X : Value → Asrt} {l : List Asrt} {w : World} {F : Fp} (hS : (Asrt.stars (A :: l)).on w F)
    (C : ∀ Fi, A.on w Fi → (∀ k, Fi k → F k) → Calls P f args w fun e w' => ∃ v, Ret (T v) (fun w' => ∃ F', (Asrt.star (X v) A').on w' F' ∧ Upd Fi F' w w') e w') :
    Calls P f args w fun e w' => ∃ v, Ret (T v) (fun w' => ∃ F', (Asrt.stars (A' :: X v :: l)).on w' F' ∧ Upd F F' w w') e w' := by
  obtain ⟨Fi, m, hs, go⟩ := Asrt.stars_head hS
  refine (C Fi m hs).mono ?_
  rintro e w' ⟨v, rfl, F', h', u'⟩
  obtain ⟨F2, h2, u2⟩ := go w' F' _ h' u'
  exact ⟨v, rfl, F2, Asrt.stars_split h2, u2⟩
/-- a call that reads the first part, and hands something new back -/
theorem on_head_row {P : Program} {f : Nat} {args : Array Value} {T : Value → Value} {A : Asrt} {X : Value → Asrt} {l : List Asrt} {w : World} {F : Fp} (hS : (Asrt.stars (A :: l)).on w F)
    (C : ∀ Fi, A.on w Fi → Calls P f args w fun e w' => ∃ v, Ret (T v) (fun w' => ∃ F', (X v).on w' F' ∧ Upd none' F' w w') e w') :
    Calls P f args w fun e w' => ∃ v, Ret (T v) (fun w' => ∃ F', (Asrt.stars (A :: X v :: l)).on w' F' ∧ Upd F F' w w') e w' := by
  obtain ⟨Fi, m, hs, go⟩ := Asrt.stars_head hS
  refine (C Fi m).mono ?_
  rintro e w' ⟨v, rfl, F', h', u'⟩
  obtain ⟨F2, h2, u2⟩ := Asrt.stars_new hS h' u'
  exact ⟨v, rfl, F2, Asrt.stars_perm (List.Perm.swap ..) h2, u2⟩
/-- a call that only reads -/
theorem on_head_quiet {P : Program} {f : Nat} {args : Array Value} {v : Value} {A : Asrt} {l : List Asrt} {w : World} {F : Fp} (hS : (Asrt.stars (A :: l)).on w F)
    (C : ∀ Fi, A.on w Fi → Calls P f args w (Ret v fun w' => ∃ n, w' = w.drewN n)) :
    Calls P f args w (Ret v fun w' => (Asrt.stars (A :: l)).on w' F ∧ Upd F F w w') := by
  obtain ⟨Fi, m, hs, go⟩ := Asrt.stars_head hS
  refine (C Fi m).mono ?_
  rintro e w' ⟨rfl, n, rfl⟩
  exact ⟨rfl, Asrt.drewN hS n, (Upd.refl F w).drewN n⟩
/-- bytes that came in -/
theorem Bytes.old {W w : World} {v : Value} {L : List UInt8} (h : Bytes W v L) {F : Fp} (hu : Upd none' F W w) : Bytes w v L ∧ ∀ g, v.ownBlock = some g → L ≠ [] → ¬ F g := by
  refine ⟨h.upd hu fun _ _ _ h => h, fun g hg hn hF => ?_⟩
  obtain ⟨a, cap, rfl, _, hr⟩ := h
  obtain ⟨x, L', rfl⟩ := List.exists_cons_of_ne_nil hn
  obtain ⟨g', off, rfl, hlt, _⟩ := hr 0 x rfl
  have e : g' = g := by simpa [Value.ownBlock] using hg
  subst e
  rcases hu.fp _ hF with h1 | h1
  · exact h1
  · exact absurd hlt (by omega)
end Go.Sub
