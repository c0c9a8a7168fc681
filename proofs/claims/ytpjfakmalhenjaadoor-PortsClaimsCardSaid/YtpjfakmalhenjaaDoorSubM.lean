/- Part M: the second part of a list of parts. No program's text. -/
import Derived.Test.YtpjfakmalhenjaaDoorSubL
namespace Go.Sub
theorem swap2 {A B : Asrt} {l : List Asrt} {w : World} {F : Fp} (h : (Asrt.stars (A :: B :: l)).on w F) : (Asrt.stars (B :: A :: l)).on w F := Asrt.stars_perm (List.Perm.swap ..) h
/-- a call that turns the second part alone -/
theorem on_snd {P : Program} {f : Nat} {args : Array Value} {v : Value} {Z A A' : Asrt} {l : List Asrt} {w : World} {F : Fp} (hS : (Asrt.stars (Z :: A :: l)).on w F)
    (C : ∀ Fi, A.on w Fi → (∀ k, Fi k → F k) → Calls P f args w (Ret v fun w' => ∃ F', A'.on w' F' ∧ Upd Fi F' w w')) :
    Calls P f args w (Ret v fun w' => ∃ F', (Asrt.stars (Z :: A' :: l)).on w' F' ∧ Upd F F' w w') := by
  refine (on_head (swap2 hS) C).mono ?_
  rintro e w' ⟨rfl, F', h', u'⟩
  exact ⟨rfl, F', swap2 h', u'⟩
/-- a call that turns the second part, and hands something new back -/
theorem on_snd_new {P : Program} {f : Nat} {args : Array Value} {T : Value → Value} {Z A A' : Asrt} {X : Value → Asrt} {l : List Asrt} {w : World} {F : Fp} (hS : (Asrt.stars (Z :: A :: l)).on w F)
    (C : ∀ Fi, A.on w Fi → (∀ k, Fi k → F k) → Calls P f args w fun e w' => ∃ v, Ret (T v) (fun w' => ∃ F', (Asrt.star (X v) A').on w' F' ∧ Upd Fi F' w w') e w') :
    Calls P f args w fun e w' => ∃ v, Ret (T v) (fun w' => ∃ F', (Asrt.stars (Z :: A' :: X v :: l)).on w' F' ∧ Upd F F' w w') e w' := by
  refine (on_head_new (swap2 hS) C).mono ?_
  rintro e w' ⟨v, rfl, F', h', u'⟩
  exact ⟨v, rfl, F', Asrt.stars_perm (((List.Perm.swap ..).cons _).trans (List.Perm.swap ..)) h', u'⟩
/-- a call that only reads the second part -/
theorem on_snd_quiet {P : Program} {f : Nat} {args : Array Value} {v : Value} {Z A : Asrt} {l : List Asrt} {w : World} {F : Fp} (hS : (Asrt.stars (Z :: A :: l)).on w F)
    (C : ∀ Fi, A.on w Fi → Calls P f args w (Ret v fun w' => ∃ n, w' = w.drewN n)) :
    Calls P f args w (Ret v fun w' => (Asrt.stars (Z :: A :: l)).on w' F ∧ Upd F F w w') := by
  refine (on_head_quiet (swap2 hS) C).mono ?_
  rintro e w' ⟨rfl, h', u'⟩
  exact ⟨rfl, swap2 h', u'⟩
namespace Asrt
theorem stars_box3 {A B : Asrt} {l : List Asrt} {w : World} {F : Fp} (hS : (stars (A :: B :: l)).on w F) (o : Obj) : ∃ F', (stars (A :: B :: .blk w.heap.size o :: l)).on (w.alloc o) F' ∧ Upd F F' w (w.alloc o) := stars_box2 hS o
end Asrt
end Go.Sub
