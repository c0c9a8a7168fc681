/- The table of connections: 'of'. -/
import Derived.Test.YtimkbpcdbbdjlaaConnA
namespace Go.Proofs.Ytimkbpcdbbdjlaa
open Go.RowKit Go.Sub Go.ChangeMaps
def Enters (f : Nat) : Prop := ∀ (args : Array Value) (w : World), (callFunc f args).run Try.prog w = .ok (.enter f args) w
set_option maxHeartbeats 400000 in
theorem of_int_none {b mb : Nat} {id : Int} {w : World} (h0 : w.cell? ⟨b, 0, none⟩ = some (.map (some mb))) (hl : ∀ W : World, W.obj mb = w.obj mb → ∀ c, (Instr.lookup 64 (.map (some mb)) (.int .i64 id) c).run Try.prog W = .ok (if c = true then .tuple #[.pointer none, .bool false] else .pointer none) W) (v : Value) :
    Calls Try.prog 40 #[.pointer (some ⟨b, 0, none⟩), .int .i64 id, v] w (Ret (.int .i64 0) fun w' => w = w') := by
  have hl := hl w rfl
  go_enter Try.func40, Try.ntmps40
  go_wp2_with fail
  go_returns
  exact ⟨rfl, rfl⟩
set_option maxHeartbeats 400000 in
theorem of_int_some {b mb cb : Nat} {id : Int} {w : World} (h0 : w.cell? ⟨b, 0, none⟩ = some (.map (some mb))) (hl : ∀ W : World, W.obj mb = w.obj mb → ∀ c, (Instr.lookup 64 (.map (some mb)) (.int .i64 id) c).run Try.prog W = .ok (if c = true then .tuple #[.pointer (some ⟨cb, 0, none⟩), .bool true] else .pointer (some ⟨cb, 0, none⟩)) W)
    {f : Nat} {caps : Array Value} (hent : Enters f) {v : Value} {Q : World → Prop} (C : Calls Try.prog f (#[.pointer (some ⟨cb, 0, none⟩)] ++ caps) w (Ret v Q)) :
    Calls Try.prog 40 #[.pointer (some ⟨b, 0, none⟩), .int .i64 id, .func (.func f) #[] caps] w (Ret v Q) := by
  have hl := hl w rfl
  have hent := hent (#[.pointer (some ⟨cb, 0, none⟩)] ++ caps)
  go_enter Try.func40, Try.ntmps40
  go_wp2_with fail
  refine C.mono ?_
  rintro e w1 ⟨rfl, hQ⟩
  go_wp2_with fail
  go_returns
  exact ⟨rfl, hQ⟩
set_option maxHeartbeats 400000 in
theorem of_u32_none {b mb : Nat} {id : Int} {w : World} (h0 : w.cell? ⟨b, 0, none⟩ = some (.map (some mb))) (hl : ∀ W : World, W.obj mb = w.obj mb → ∀ c, (Instr.lookup 64 (.map (some mb)) (.int .i64 id) c).run Try.prog W = .ok (if c = true then .tuple #[.pointer none, .bool false] else .pointer none) W) (v : Value) :
    Calls Try.prog 47 #[.pointer (some ⟨b, 0, none⟩), .int .i64 id, v] w (Ret (.int .u32 0) fun w' => w = w') := by
  have hl := hl w rfl
  go_enter Try.func47, Try.ntmps47
  go_wp2_with fail
  go_returns
  exact ⟨rfl, rfl⟩
set_option maxHeartbeats 400000 in
theorem of_u32_some {b mb cb : Nat} {id : Int} {w : World} (h0 : w.cell? ⟨b, 0, none⟩ = some (.map (some mb))) (hl : ∀ W : World, W.obj mb = w.obj mb → ∀ c, (Instr.lookup 64 (.map (some mb)) (.int .i64 id) c).run Try.prog W = .ok (if c = true then .tuple #[.pointer (some ⟨cb, 0, none⟩), .bool true] else .pointer (some ⟨cb, 0, none⟩)) W)
    {f : Nat} {caps : Array Value} (hent : Enters f) {v : Value} {Q : World → Prop} (C : Calls Try.prog f (#[.pointer (some ⟨cb, 0, none⟩)] ++ caps) w (Ret v Q)) :
    Calls Try.prog 47 #[.pointer (some ⟨b, 0, none⟩), .int .i64 id, .func (.func f) #[] caps] w (Ret v Q) := by
  have hl := hl w rfl
  have hent := hent (#[.pointer (some ⟨cb, 0, none⟩)] ++ caps)
  go_enter Try.func47, Try.ntmps47
  go_wp2_with fail
  refine C.mono ?_
  rintro e w1 ⟨rfl, hQ⟩
  go_wp2_with fail
  go_returns
  exact ⟨rfl, hQ⟩
set_option maxHeartbeats 400000 in
theorem of_bool_none {b mb : Nat} {id : Int} {w : World} (h0 : w.cell? ⟨b, 0, none⟩ = some (.map (some mb))) (hl : ∀ W : World, W.obj mb = w.obj mb → ∀ c, (Instr.lookup 64 (.map (some mb)) (.int .i64 id) c).run Try.prog W = .ok (if c = true then .tuple #[.pointer none, .bool false] else .pointer none) W) (v : Value) :
    Calls Try.prog 51 #[.pointer (some ⟨b, 0, none⟩), .int .i64 id, v] w (Ret (.bool false) fun w' => w = w') := by
  have hl := hl w rfl
  go_enter Try.func51, Try.ntmps51
  go_wp2_with fail
  go_returns
  exact ⟨rfl, rfl⟩
set_option maxHeartbeats 400000 in
theorem of_bool_some {b mb cb : Nat} {id : Int} {w : World} (h0 : w.cell? ⟨b, 0, none⟩ = some (.map (some mb))) (hl : ∀ W : World, W.obj mb = w.obj mb → ∀ c, (Instr.lookup 64 (.map (some mb)) (.int .i64 id) c).run Try.prog W = .ok (if c = true then .tuple #[.pointer (some ⟨cb, 0, none⟩), .bool true] else .pointer (some ⟨cb, 0, none⟩)) W)
    {f : Nat} {caps : Array Value} (hent : Enters f) {v : Value} {Q : World → Prop} (C : Calls Try.prog f (#[.pointer (some ⟨cb, 0, none⟩)] ++ caps) w (Ret v Q)) :
    Calls Try.prog 51 #[.pointer (some ⟨b, 0, none⟩), .int .i64 id, .func (.func f) #[] caps] w (Ret v Q) := by
  have hl := hl w rfl
  have hent := hent (#[.pointer (some ⟨cb, 0, none⟩)] ++ caps)
  go_enter Try.func51, Try.ntmps51
  go_wp2_with fail
  refine C.mono ?_
  rintro e w1 ⟨rfl, hQ⟩
  go_wp2_with fail
  go_returns
  exact ⟨rfl, hQ⟩
set_option maxHeartbeats 400000 in
theorem of_bytes_none {b mb : Nat} {id : Int} {w : World} (h0 : w.cell? ⟨b, 0, none⟩ = some (.map (some mb))) (hl : ∀ W : World, W.obj mb = w.obj mb → ∀ c, (Instr.lookup 64 (.map (some mb)) (.int .i64 id) c).run Try.prog W = .ok (if c = true then .tuple #[.pointer none, .bool false] else .pointer none) W) (v : Value) :
    Calls Try.prog 57 #[.pointer (some ⟨b, 0, none⟩), .int .i64 id, v] w (Ret (.slice none 0 0) fun w' => w = w') := by
  have hl := hl w rfl
  go_enter Try.func57, Try.ntmps57
  go_wp2_with fail
  go_returns
  exact ⟨rfl, rfl⟩
set_option maxHeartbeats 400000 in
theorem of_bytes_some {b mb cb : Nat} {id : Int} {w : World} (h0 : w.cell? ⟨b, 0, none⟩ = some (.map (some mb))) (hl : ∀ W : World, W.obj mb = w.obj mb → ∀ c, (Instr.lookup 64 (.map (some mb)) (.int .i64 id) c).run Try.prog W = .ok (if c = true then .tuple #[.pointer (some ⟨cb, 0, none⟩), .bool true] else .pointer (some ⟨cb, 0, none⟩)) W)
    {f : Nat} {caps : Array Value} (hent : Enters f) {v : Value} {Q : World → Prop} (C : Calls Try.prog f (#[.pointer (some ⟨cb, 0, none⟩)] ++ caps) w (Ret v Q)) :
    Calls Try.prog 57 #[.pointer (some ⟨b, 0, none⟩), .int .i64 id, .func (.func f) #[] caps] w (Ret v Q) := by
  have hl := hl w rfl
  have hent := hent (#[.pointer (some ⟨cb, 0, none⟩)] ++ caps)
  go_enter Try.func57, Try.ntmps57
  go_wp2_with fail
  refine C.mono ?_
  rintro e w1 ⟨rfl, hQ⟩
  go_wp2_with fail
  go_returns
  exact ⟨rfl, hQ⟩
end Go.Proofs.Ytimkbpcdbbdjlaa
