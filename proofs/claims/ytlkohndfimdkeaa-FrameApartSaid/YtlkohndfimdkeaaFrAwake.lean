/- The walk over the statements' own first function: it tells true. -/
import Derived.Test.YtlkohndfimdkeaaFrRefGet
namespace Go.Proofs.Ytlkohndfimdkeaa
open Go.RowKit Crc Fr

def awB : ByteArray := secB 1 2 ⟨#[97, 98]⟩ 128
theorem awB_size : awB.size = 128 := by decide +kernel
theorem awB_head : (awB.extract 0 10).toList = [0, 2, 0, 0, 0, 1, 0, 0, 0, 2] := by rw [ByteArray.toList_eq]; decide +kernel
theorem faw1 (w : World) : Calls Try.prog 9 #[.int .i64 1, .int .i64 2, .string ⟨#[97, 98]⟩, .int .i64 128] w fun e w' => e = .returned (.tuple #[.string awB, .int .i64 0]) ∧ Below w.heap.size w w' :=
  put_yes 1 2 128 ⟨#[97, 98]⟩ w (by omega) (by omega) (by omega) (by omega) (by omega) (by omega) (by decide)
theorem faw2 (w : World) : Calls Try.prog 13 #[.string awB] w fun e w' => e = .returned (.tuple #[.int .i64 1, .int .i64 2, .string ⟨#[97, 98]⟩, .bool true]) ∧ Below w.heap.size w w' := by
  have h := get_any awB w (by rw [awB_size]; omega)
  rw [show genI awB = 1 by decide +kernel, show seqI awB = 2 by decide +kernel, show payB awB = ⟨#[97, 98]⟩ by decide +kernel, show okB awB = true by decide +kernel] at h
  exact h
theorem faw3 (w : World) : Calls Try.prog 15 #[.string ⟨#[0]⟩, .int .i64 128] w fun e w' => e = .returned (.string (zB 128)) ∧ Below w.heap.size w w' := repeat_zeros 128 w (by omega)
theorem faw4 (w : World) : Calls Try.prog 13 #[.string (zB 128)] w fun e w' => e = .returned (.tuple #[.int .i64 0, .int .i64 0, .string ⟨#[]⟩, .bool false]) ∧ Below w.heap.size w w' := by
  have h := get_any (zB 128) w (by rw [zB_size]; omega)
  rw [zero_results _ (show okB (zB 128) = false by decide +kernel)] at h
  exact h
def asB : ByteArray := ⟨(Lib.repeatL [97] 115).toArray⟩
theorem faw5 (w : World) : Calls Try.prog 15 #[.string ⟨#[97]⟩, .int .i64 115] w fun e w' => e = .returned (.string asB) ∧ Below w.heap.size w w' :=
  Try.strings_Repeat ⟨#[97]⟩ 115 w (by omega) (by decide)
theorem faw6 (w : World) : Calls Try.prog 9 #[.int .i64 1, .int .i64 2, .string asB, .int .i64 128] w fun e w' => e = .returned (.tuple #[.string ⟨#[]⟩, .int .i64 5]) ∧ w' = w :=
  put_long 1 2 128 asB w (by omega) (by omega) (by omega) (by omega) (by omega) (by omega) (by decide)
theorem faw7 (w : World) : Calls Try.prog 11 #[.int .i64 128] w fun e w' => e = .returned (.int .i64 114) ∧ w' = w := room_any 128 w

set_option maxRecDepth 100000 in
set_option maxHeartbeats 2000000 in
theorem fawake_any (w : World) : Calls Try.prog 8 #[] w fun e w' => e = .returned (.bool true) ∧ Below w.heap.size w w' := by
  have h1 := awB_size
  have h2 := awB_head
  go_enter Try.func8, Try.ntmps8
  go_wp2_with fail
  (with_reducible refine (faw1 _).mono ?_); rintro _ w1 ⟨rfl, hb1⟩
  go_wp2_with fail
  (with_reducible refine (faw2 _).mono ?_); rintro _ w2 ⟨rfl, hb2⟩
  go_wp2_with fail
  (with_reducible refine (faw3 _).mono ?_); rintro _ w3 ⟨rfl, hb3⟩
  go_wp2_with fail
  (with_reducible refine (faw4 _).mono ?_); rintro _ w4 ⟨rfl, hb4⟩
  go_wp2_with fail
  (with_reducible refine (faw5 _).mono ?_); rintro _ w5 ⟨rfl, hb5⟩
  go_wp2_with fail
  (with_reducible refine (faw6 _).mono ?_); rintro _ w' ⟨rfl, rfl⟩
  go_wp2_with fail
  (with_reducible refine (faw7 _).mono ?_); rintro _ w' ⟨rfl, rfl⟩
  go_wp2
  go_ret
  exact ⟨rfl, bthen (bthen (bthen (bthen hb1 hb2) hb3) hb4) hb5⟩
end Go.Proofs.Ytlkohndfimdkeaa
