/-
  The code of the functions, as the abstract machine has it; it is the program's.
-/
import Derived.Test.YtineacililniiaaGreatDoorAmO
import Derived.Test.YtineacililniiaaGreatDoorIds
import Derived.Test.YtineacililniiaaGreatDoorProg
import Derived.KernelRfl
set_option maxRecDepth 100000
namespace Go.AM.R
open Go.AM
def calls_table : RFunc := RFunc.mk 67 [.tmp 0] (
  RC.seq (RC.region 1 [
    ⟨(some 0), .move (.c (.s (.slice none 0 0 1))), none, 0, []⟩]) (RC.seq (RC.region 67 [
    ⟨(some 1), .build [.str ⟨#[]⟩, .int .i64 0, .int .i64 0] [], none, 0, []⟩,
    ⟨(some 2), .build [.str ⟨#[]⟩, .int .i64 0, .int .i64 0] [(0, 1, (.c (.s (.str ⟨#[97, 99, 116, 95, 116, 115, 107]⟩)))), (1, 1, (.c (.s (.int .i64 1)))), (2, 1, (.c (.s (.int .i64 1))))], none, 1, []⟩,
    ⟨(some 3), .build [.str ⟨#[]⟩, .int .i64 0, .int .i64 0] [(0, 1, (.c (.s (.str ⟨#[105, 97, 99, 116, 95, 116, 115, 107]⟩)))), (1, 1, (.c (.s (.int .i64 1)))), (2, 1, (.c (.s (.int .i64 3))))], none, 2, []⟩,
    ⟨(some 4), .build [.str ⟨#[]⟩, .int .i64 0, .int .i64 0] [(0, 1, (.c (.s (.str ⟨#[99, 97, 110, 95, 97, 99, 116]⟩)))), (1, 1, (.c (.s (.int .i64 1)))), (2, 1, (.c (.s (.int .i64 1))))], none, 3, []⟩,
    ⟨(some 5), .build [.str ⟨#[]⟩, .int .i64 0, .int .i64 0] [(0, 1, (.c (.s (.str ⟨#[101, 120, 116, 95, 116, 115, 107]⟩)))), (1, 1, (.c (.s (.int .i64 0)))), (2, 1, (.c (.s (.int .i64 4))))], none, 4, []⟩,
    ⟨(some 6), .build [.str ⟨#[]⟩, .int .i64 0, .int .i64 0] [(0, 1, (.c (.s (.str ⟨#[116, 101, 114, 95, 116, 115, 107]⟩)))), (1, 1, (.c (.s (.int .i64 1)))), (2, 1, (.c (.s (.int .i64 1))))], none, 5, []⟩,
    ⟨(some 7), .build [.str ⟨#[]⟩, .int .i64 0, .int .i64 0] [(0, 1, (.c (.s (.str ⟨#[99, 104, 103, 95, 112, 114, 105]⟩)))), (1, 1, (.c (.s (.int .i64 2)))), (2, 1, (.c (.s (.int .i64 1))))], none, 6, []⟩,
    ⟨(some 8), .build [.str ⟨#[]⟩, .int .i64 0, .int .i64 0] [(0, 1, (.c (.s (.str ⟨#[103, 101, 116, 95, 112, 114, 105]⟩)))), (1, 1, (.c (.s (.int .i64 1)))), (2, 1, (.c (.s (.int .i64 1))))], none, 7, []⟩,
    ⟨(some 9), .build [.str ⟨#[]⟩, .int .i64 0, .int .i64 0] [(0, 1, (.c (.s (.str ⟨#[114, 111, 116, 95, 114, 100, 113]⟩)))), (1, 1, (.c (.s (.int .i64 1)))), (2, 1, (.c (.s (.int .i64 1))))], none, 8, []⟩,
    ⟨(some 10), .build [.str ⟨#[]⟩, .int .i64 0, .int .i64 0] [(0, 1, (.c (.s (.str ⟨#[105, 114, 111, 116, 95, 114, 100, 113]⟩)))), (1, 1, (.c (.s (.int .i64 1)))), (2, 1, (.c (.s (.int .i64 3))))], none, 9, []⟩,
    ⟨(some 11), .build [.str ⟨#[]⟩, .int .i64 0, .int .i64 0] [(0, 1, (.c (.s (.str ⟨#[103, 101, 116, 95, 116, 105, 100]⟩)))), (1, 1, (.c (.s (.int .i64 0)))), (2, 1, (.c (.s (.int .i64 1))))], none, 10, []⟩,
    ⟨(some 12), .build [.str ⟨#[]⟩, .int .i64 0, .int .i64 0] [(0, 1, (.c (.s (.str ⟨#[105, 103, 101, 116, 95, 116, 105, 100]⟩)))), (1, 1, (.c (.s (.int .i64 0)))), (2, 1, (.c (.s (.int .i64 3))))], none, 11, []⟩,
    ⟨(some 13), .build [.str ⟨#[]⟩, .int .i64 0, .int .i64 0] [(0, 1, (.c (.s (.str ⟨#[115, 108, 112, 95, 116, 115, 107]⟩)))), (1, 1, (.c (.s (.int .i64 0)))), (2, 1, (.c (.s (.int .i64 2))))], none, 12, []⟩,
    ⟨(some 14), .build [.str ⟨#[]⟩, .int .i64 0, .int .i64 0] [(0, 1, (.c (.s (.str ⟨#[116, 115, 108, 112, 95, 116, 115, 107]⟩)))), (1, 1, (.c (.s (.int .i64 1)))), (2, 1, (.c (.s (.int .i64 2))))], none, 13, []⟩,
    ⟨(some 15), .build [.str ⟨#[]⟩, .int .i64 0, .int .i64 0] [(0, 1, (.c (.s (.str ⟨#[119, 117, 112, 95, 116, 115, 107]⟩)))), (1, 1, (.c (.s (.int .i64 1)))), (2, 1, (.c (.s (.int .i64 1))))], none, 14, []⟩,
    ⟨(some 16), .build [.str ⟨#[]⟩, .int .i64 0, .int .i64 0] [(0, 1, (.c (.s (.str ⟨#[105, 119, 117, 112, 95, 116, 115, 107]⟩)))), (1, 1, (.c (.s (.int .i64 1)))), (2, 1, (.c (.s (.int .i64 3))))], none, 15, []⟩,
    ⟨(some 17), .build [.str ⟨#[]⟩, .int .i64 0, .int .i64 0] [(0, 1, (.c (.s (.str ⟨#[99, 97, 110, 95, 119, 117, 112]⟩)))), (1, 1, (.c (.s (.int .i64 1)))), (2, 1, (.c (.s (.int .i64 1))))], none, 16, []⟩,
    ⟨(some 18), .build [.str ⟨#[]⟩, .int .i64 0, .int .i64 0] [(0, 1, (.c (.s (.str ⟨#[114, 101, 108, 95, 119, 97, 105]⟩)))), (1, 1, (.c (.s (.int .i64 1)))), (2, 1, (.c (.s (.int .i64 1))))], none, 17, []⟩,
    ⟨(some 19), .build [.str ⟨#[]⟩, .int .i64 0, .int .i64 0] [(0, 1, (.c (.s (.str ⟨#[105, 114, 101, 108, 95, 119, 97, 105]⟩)))), (1, 1, (.c (.s (.int .i64 1)))), (2, 1, (.c (.s (.int .i64 3))))], none, 18, []⟩,
    ⟨(some 20), .build [.str ⟨#[]⟩, .int .i64 0, .int .i64 0] [(0, 1, (.c (.s (.str ⟨#[115, 117, 115, 95, 116, 115, 107]⟩)))), (1, 1, (.c (.s (.int .i64 1)))), (2, 1, (.c (.s (.int .i64 1))))], none, 19, []⟩,
    ⟨(some 21), .build [.str ⟨#[]⟩, .int .i64 0, .int .i64 0] [(0, 1, (.c (.s (.str ⟨#[114, 115, 109, 95, 116, 115, 107]⟩)))), (1, 1, (.c (.s (.int .i64 1)))), (2, 1, (.c (.s (.int .i64 1))))], none, 20, []⟩,
    ⟨(some 22), .build [.str ⟨#[]⟩, .int .i64 0, .int .i64 0] [(0, 1, (.c (.s (.str ⟨#[102, 114, 115, 109, 95, 116, 115, 107]⟩)))), (1, 1, (.c (.s (.int .i64 1)))), (2, 1, (.c (.s (.int .i64 1))))], none, 21, []⟩,
    ⟨(some 23), .build [.str ⟨#[]⟩, .int .i64 0, .int .i64 0] [(0, 1, (.c (.s (.str ⟨#[100, 108, 121, 95, 116, 115, 107]⟩)))), (1, 1, (.c (.s (.int .i64 1)))), (2, 1, (.c (.s (.int .i64 2))))], none, 22, []⟩,
    ⟨(some 24), .build [.str ⟨#[]⟩, .int .i64 0, .int .i64 0] [(0, 1, (.c (.s (.str ⟨#[115, 105, 103, 95, 115, 101, 109]⟩)))), (1, 1, (.c (.s (.int .i64 1)))), (2, 1, (.c (.s (.int .i64 1))))], none, 23, []⟩,
    ⟨(some 25), .build [.str ⟨#[]⟩, .int .i64 0, .int .i64 0] [(0, 1, (.c (.s (.str ⟨#[105, 115, 105, 103, 95, 115, 101, 109]⟩)))), (1, 1, (.c (.s (.int .i64 1)))), (2, 1, (.c (.s (.int .i64 3))))], none, 24, []⟩,
    ⟨(some 26), .build [.str ⟨#[]⟩, .int .i64 0, .int .i64 0] [(0, 1, (.c (.s (.str ⟨#[119, 97, 105, 95, 115, 101, 109]⟩)))), (1, 1, (.c (.s (.int .i64 1)))), (2, 1, (.c (.s (.int .i64 2))))], none, 25, []⟩,
    ⟨(some 27), .build [.str ⟨#[]⟩, .int .i64 0, .int .i64 0] [(0, 1, (.c (.s (.str ⟨#[112, 111, 108, 95, 115, 101, 109]⟩)))), (1, 1, (.c (.s (.int .i64 1)))), (2, 1, (.c (.s (.int .i64 1))))], none, 26, []⟩,
    ⟨(some 28), .build [.str ⟨#[]⟩, .int .i64 0, .int .i64 0] [(0, 1, (.c (.s (.str ⟨#[116, 119, 97, 105, 95, 115, 101, 109]⟩)))), (1, 1, (.c (.s (.int .i64 2)))), (2, 1, (.c (.s (.int .i64 2))))], none, 27, []⟩,
    ⟨(some 29), .build [.str ⟨#[]⟩, .int .i64 0, .int .i64 0] [(0, 1, (.c (.s (.str ⟨#[115, 101, 116, 95, 102, 108, 103]⟩)))), (1, 1, (.c (.s (.int .i64 2)))), (2, 1, (.c (.s (.int .i64 1))))], none, 28, []⟩,
    ⟨(some 30), .build [.str ⟨#[]⟩, .int .i64 0, .int .i64 0] [(0, 1, (.c (.s (.str ⟨#[105, 115, 101, 116, 95, 102, 108, 103]⟩)))), (1, 1, (.c (.s (.int .i64 2)))), (2, 1, (.c (.s (.int .i64 3))))], none, 29, []⟩,
    ⟨(some 31), .build [.str ⟨#[]⟩, .int .i64 0, .int .i64 0] [(0, 1, (.c (.s (.str ⟨#[99, 108, 114, 95, 102, 108, 103]⟩)))), (1, 1, (.c (.s (.int .i64 2)))), (2, 1, (.c (.s (.int .i64 1))))], none, 30, []⟩,
    ⟨(some 32), .build [.str ⟨#[]⟩, .int .i64 0, .int .i64 0] [(0, 1, (.c (.s (.str ⟨#[119, 97, 105, 95, 102, 108, 103]⟩)))), (1, 1, (.c (.s (.int .i64 3)))), (2, 1, (.c (.s (.int .i64 2))))], none, 31, []⟩,
    ⟨(some 33), .build [.str ⟨#[]⟩, .int .i64 0, .int .i64 0] [(0, 1, (.c (.s (.str ⟨#[112, 111, 108, 95, 102, 108, 103]⟩)))), (1, 1, (.c (.s (.int .i64 3)))), (2, 1, (.c (.s (.int .i64 1))))], none, 32, []⟩,
    ⟨(some 34), .build [.str ⟨#[]⟩, .int .i64 0, .int .i64 0] [(0, 1, (.c (.s (.str ⟨#[116, 119, 97, 105, 95, 102, 108, 103]⟩)))), (1, 1, (.c (.s (.int .i64 4)))), (2, 1, (.c (.s (.int .i64 2))))], none, 33, []⟩,
    ⟨(some 35), .build [.str ⟨#[]⟩, .int .i64 0, .int .i64 0] [(0, 1, (.c (.s (.str ⟨#[115, 110, 100, 95, 100, 116, 113]⟩)))), (1, 1, (.c (.s (.int .i64 2)))), (2, 1, (.c (.s (.int .i64 2))))], none, 34, []⟩,
    ⟨(some 36), .build [.str ⟨#[]⟩, .int .i64 0, .int .i64 0] [(0, 1, (.c (.s (.str ⟨#[112, 115, 110, 100, 95, 100, 116, 113]⟩)))), (1, 1, (.c (.s (.int .i64 2)))), (2, 1, (.c (.s (.int .i64 1))))], none, 35, []⟩,
    ⟨(some 37), .build [.str ⟨#[]⟩, .int .i64 0, .int .i64 0] [(0, 1, (.c (.s (.str ⟨#[105, 112, 115, 110, 100, 95, 100, 116, 113]⟩)))), (1, 1, (.c (.s (.int .i64 2)))), (2, 1, (.c (.s (.int .i64 3))))], none, 36, []⟩,
    ⟨(some 38), .build [.str ⟨#[]⟩, .int .i64 0, .int .i64 0] [(0, 1, (.c (.s (.str ⟨#[116, 115, 110, 100, 95, 100, 116, 113]⟩)))), (1, 1, (.c (.s (.int .i64 3)))), (2, 1, (.c (.s (.int .i64 2))))], none, 37, []⟩,
    ⟨(some 39), .build [.str ⟨#[]⟩, .int .i64 0, .int .i64 0] [(0, 1, (.c (.s (.str ⟨#[102, 115, 110, 100, 95, 100, 116, 113]⟩)))), (1, 1, (.c (.s (.int .i64 2)))), (2, 1, (.c (.s (.int .i64 1))))], none, 38, []⟩,
    ⟨(some 40), .build [.str ⟨#[]⟩, .int .i64 0, .int .i64 0] [(0, 1, (.c (.s (.str ⟨#[105, 102, 115, 110, 100, 95, 100, 116, 113]⟩)))), (1, 1, (.c (.s (.int .i64 2)))), (2, 1, (.c (.s (.int .i64 3))))], none, 39, []⟩,
    ⟨(some 41), .build [.str ⟨#[]⟩, .int .i64 0, .int .i64 0] [(0, 1, (.c (.s (.str ⟨#[114, 99, 118, 95, 100, 116, 113]⟩)))), (1, 1, (.c (.s (.int .i64 1)))), (2, 1, (.c (.s (.int .i64 2))))], none, 40, []⟩,
    ⟨(some 42), .build [.str ⟨#[]⟩, .int .i64 0, .int .i64 0] [(0, 1, (.c (.s (.str ⟨#[112, 114, 99, 118, 95, 100, 116, 113]⟩)))), (1, 1, (.c (.s (.int .i64 1)))), (2, 1, (.c (.s (.int .i64 1))))], none, 41, []⟩,
    ⟨(some 43), .build [.str ⟨#[]⟩, .int .i64 0, .int .i64 0] [(0, 1, (.c (.s (.str ⟨#[116, 114, 99, 118, 95, 100, 116, 113]⟩)))), (1, 1, (.c (.s (.int .i64 2)))), (2, 1, (.c (.s (.int .i64 2))))], none, 42, []⟩,
    ⟨(some 44), .build [.str ⟨#[]⟩, .int .i64 0, .int .i64 0] [(0, 1, (.c (.s (.str ⟨#[108, 111, 99, 95, 109, 116, 120]⟩)))), (1, 1, (.c (.s (.int .i64 1)))), (2, 1, (.c (.s (.int .i64 2))))], none, 43, []⟩,
    ⟨(some 45), .build [.str ⟨#[]⟩, .int .i64 0, .int .i64 0] [(0, 1, (.c (.s (.str ⟨#[112, 108, 111, 99, 95, 109, 116, 120]⟩)))), (1, 1, (.c (.s (.int .i64 1)))), (2, 1, (.c (.s (.int .i64 1))))], none, 44, []⟩,
    ⟨(some 46), .build [.str ⟨#[]⟩, .int .i64 0, .int .i64 0] [(0, 1, (.c (.s (.str ⟨#[116, 108, 111, 99, 95, 109, 116, 120]⟩)))), (1, 1, (.c (.s (.int .i64 2)))), (2, 1, (.c (.s (.int .i64 2))))], none, 45, []⟩,
    ⟨(some 47), .build [.str ⟨#[]⟩, .int .i64 0, .int .i64 0] [(0, 1, (.c (.s (.str ⟨#[117, 110, 108, 95, 109, 116, 120]⟩)))), (1, 1, (.c (.s (.int .i64 1)))), (2, 1, (.c (.s (.int .i64 1))))], none, 46, []⟩,
    ⟨(some 48), .build [.str ⟨#[]⟩, .int .i64 0, .int .i64 0] [(0, 1, (.c (.s (.str ⟨#[103, 101, 116, 95, 109, 112, 102]⟩)))), (1, 1, (.c (.s (.int .i64 1)))), (2, 1, (.c (.s (.int .i64 2))))], none, 47, []⟩,
    ⟨(some 49), .build [.str ⟨#[]⟩, .int .i64 0, .int .i64 0] [(0, 1, (.c (.s (.str ⟨#[112, 103, 101, 116, 95, 109, 112, 102]⟩)))), (1, 1, (.c (.s (.int .i64 1)))), (2, 1, (.c (.s (.int .i64 1))))], none, 48, []⟩,
    ⟨(some 50), .build [.str ⟨#[]⟩, .int .i64 0, .int .i64 0] [(0, 1, (.c (.s (.str ⟨#[116, 103, 101, 116, 95, 109, 112, 102]⟩)))), (1, 1, (.c (.s (.int .i64 2)))), (2, 1, (.c (.s (.int .i64 2))))], none, 49, []⟩,
    ⟨(some 51), .build [.str ⟨#[]⟩, .int .i64 0, .int .i64 0] [(0, 1, (.c (.s (.str ⟨#[114, 101, 108, 95, 109, 112, 102]⟩)))), (1, 1, (.c (.s (.int .i64 2)))), (2, 1, (.c (.s (.int .i64 1))))], none, 50, []⟩,
    ⟨(some 52), .build [.str ⟨#[]⟩, .int .i64 0, .int .i64 0] [(0, 1, (.c (.s (.str ⟨#[115, 101, 116, 95, 116, 105, 109]⟩)))), (1, 1, (.c (.s (.int .i64 1)))), (2, 1, (.c (.s (.int .i64 1))))], none, 51, []⟩,
    ⟨(some 53), .build [.str ⟨#[]⟩, .int .i64 0, .int .i64 0] [(0, 1, (.c (.s (.str ⟨#[103, 101, 116, 95, 116, 105, 109]⟩)))), (1, 1, (.c (.s (.int .i64 0)))), (2, 1, (.c (.s (.int .i64 1))))], none, 52, []⟩,
    ⟨(some 54), .build [.str ⟨#[]⟩, .int .i64 0, .int .i64 0] [(0, 1, (.c (.s (.str ⟨#[115, 116, 97, 95, 99, 121, 99]⟩)))), (1, 1, (.c (.s (.int .i64 1)))), (2, 1, (.c (.s (.int .i64 1))))], none, 53, []⟩,
    ⟨(some 55), .build [.str ⟨#[]⟩, .int .i64 0, .int .i64 0] [(0, 1, (.c (.s (.str ⟨#[115, 116, 112, 95, 99, 121, 99]⟩)))), (1, 1, (.c (.s (.int .i64 1)))), (2, 1, (.c (.s (.int .i64 1))))], none, 54, []⟩,
    ⟨(some 56), .build [.str ⟨#[]⟩, .int .i64 0, .int .i64 0] [(0, 1, (.c (.s (.str ⟨#[115, 116, 97, 95, 97, 108, 109]⟩)))), (1, 1, (.c (.s (.int .i64 2)))), (2, 1, (.c (.s (.int .i64 1))))], none, 55, []⟩,
    ⟨(some 57), .build [.str ⟨#[]⟩, .int .i64 0, .int .i64 0] [(0, 1, (.c (.s (.str ⟨#[115, 116, 112, 95, 97, 108, 109]⟩)))), (1, 1, (.c (.s (.int .i64 1)))), (2, 1, (.c (.s (.int .i64 1))))], none, 56, []⟩,
    ⟨(some 58), .build [.str ⟨#[]⟩, .int .i64 0, .int .i64 0] [(0, 1, (.c (.s (.str ⟨#[108, 111, 99, 95, 99, 112, 117]⟩)))), (1, 1, (.c (.s (.int .i64 0)))), (2, 1, (.c (.s (.int .i64 4))))], none, 57, []⟩,
    ⟨(some 59), .build [.str ⟨#[]⟩, .int .i64 0, .int .i64 0] [(0, 1, (.c (.s (.str ⟨#[117, 110, 108, 95, 99, 112, 117]⟩)))), (1, 1, (.c (.s (.int .i64 0)))), (2, 1, (.c (.s (.int .i64 4))))], none, 58, []⟩,
    ⟨(some 60), .build [.str ⟨#[]⟩, .int .i64 0, .int .i64 0] [(0, 1, (.c (.s (.str ⟨#[100, 105, 115, 95, 100, 115, 112]⟩)))), (1, 1, (.c (.s (.int .i64 0)))), (2, 1, (.c (.s (.int .i64 1))))], none, 59, []⟩,
    ⟨(some 61), .build [.str ⟨#[]⟩, .int .i64 0, .int .i64 0] [(0, 1, (.c (.s (.str ⟨#[101, 110, 97, 95, 100, 115, 112]⟩)))), (1, 1, (.c (.s (.int .i64 0)))), (2, 1, (.c (.s (.int .i64 1))))], none, 60, []⟩,
    ⟨(some 62), .build [.str ⟨#[]⟩, .int .i64 0, .int .i64 0] [(0, 1, (.c (.s (.str ⟨#[115, 110, 115, 95, 99, 116, 120]⟩)))), (1, 1, (.c (.s (.int .i64 0)))), (2, 1, (.c (.s (.int .i64 0))))], none, 61, []⟩,
    ⟨(some 63), .build [.str ⟨#[]⟩, .int .i64 0, .int .i64 0] [(0, 1, (.c (.s (.str ⟨#[115, 110, 115, 95, 108, 111, 99]⟩)))), (1, 1, (.c (.s (.int .i64 0)))), (2, 1, (.c (.s (.int .i64 0))))], none, 62, []⟩,
    ⟨(some 64), .build [.str ⟨#[]⟩, .int .i64 0, .int .i64 0] [(0, 1, (.c (.s (.str ⟨#[115, 110, 115, 95, 100, 115, 112]⟩)))), (1, 1, (.c (.s (.int .i64 0)))), (2, 1, (.c (.s (.int .i64 0))))], none, 63, []⟩,
    ⟨(some 65), .build [.str ⟨#[]⟩, .int .i64 0, .int .i64 0] [(0, 1, (.c (.s (.str ⟨#[115, 110, 115, 95, 100, 112, 110]⟩)))), (1, 1, (.c (.s (.int .i64 0)))), (2, 1, (.c (.s (.int .i64 0))))], none, 64, []⟩,
    ⟨(some 66), .buildSlice 3 65 [.str ⟨#[]⟩, .int .i64 0, .int .i64 0, .str ⟨#[]⟩, .int .i64 0, .int .i64 0, .str ⟨#[]⟩, .int .i64 0, .int .i64 0, .str ⟨#[]⟩, .int .i64 0, .int .i64 0, .str ⟨#[]⟩, .int .i64 0, .int .i64 0, .str ⟨#[]⟩, .int .i64 0, .int .i64 0, .str ⟨#[]⟩, .int .i64 0, .int .i64 0, .str ⟨#[]⟩, .int .i64 0, .int .i64 0, .str ⟨#[]⟩, .int .i64 0, .int .i64 0, .str ⟨#[]⟩, .int .i64 0, .int .i64 0, .str ⟨#[]⟩, .int .i64 0, .int .i64 0, .str ⟨#[]⟩, .int .i64 0, .int .i64 0, .str ⟨#[]⟩, .int .i64 0, .int .i64 0, .str ⟨#[]⟩, .int .i64 0, .int .i64 0, .str ⟨#[]⟩, .int .i64 0, .int .i64 0, .str ⟨#[]⟩, .int .i64 0, .int .i64 0, .str ⟨#[]⟩, .int .i64 0, .int .i64 0, .str ⟨#[]⟩, .int .i64 0, .int .i64 0, .str ⟨#[]⟩, .int .i64 0, .int .i64 0, .str ⟨#[]⟩, .int .i64 0, .int .i64 0, .str ⟨#[]⟩, .int .i64 0, .int .i64 0, .str ⟨#[]⟩, .int .i64 0, .int .i64 0, .str ⟨#[]⟩, .int .i64 0, .int .i64 0, .str ⟨#[]⟩, .int .i64 0, .int .i64 0, .str ⟨#[]⟩, .int .i64 0, .int .i64 0, .str ⟨#[]⟩, .int .i64 0, .int .i64 0, .str ⟨#[]⟩, .int .i64 0, .int .i64 0, .str ⟨#[]⟩, .int .i64 0, .int .i64 0, .str ⟨#[]⟩, .int .i64 0, .int .i64 0, .str ⟨#[]⟩, .int .i64 0, .int .i64 0, .str ⟨#[]⟩, .int .i64 0, .int .i64 0, .str ⟨#[]⟩, .int .i64 0, .int .i64 0, .str ⟨#[]⟩, .int .i64 0, .int .i64 0, .str ⟨#[]⟩, .int .i64 0, .int .i64 0, .str ⟨#[]⟩, .int .i64 0, .int .i64 0, .str ⟨#[]⟩, .int .i64 0, .int .i64 0, .str ⟨#[]⟩, .int .i64 0, .int .i64 0, .str ⟨#[]⟩, .int .i64 0, .int .i64 0, .str ⟨#[]⟩, .int .i64 0, .int .i64 0, .str ⟨#[]⟩, .int .i64 0, .int .i64 0, .str ⟨#[]⟩, .int .i64 0, .int .i64 0, .str ⟨#[]⟩, .int .i64 0, .int .i64 0, .str ⟨#[]⟩, .int .i64 0, .int .i64 0, .str ⟨#[]⟩, .int .i64 0, .int .i64 0, .str ⟨#[]⟩, .int .i64 0, .int .i64 0, .str ⟨#[]⟩, .int .i64 0, .int .i64 0, .str ⟨#[]⟩, .int .i64 0, .int .i64 0, .str ⟨#[]⟩, .int .i64 0, .int .i64 0, .str ⟨#[]⟩, .int .i64 0, .int .i64 0, .str ⟨#[]⟩, .int .i64 0, .int .i64 0, .str ⟨#[]⟩, .int .i64 0, .int .i64 0, .str ⟨#[]⟩, .int .i64 0, .int .i64 0, .str ⟨#[]⟩, .int .i64 0, .int .i64 0, .str ⟨#[]⟩, .int .i64 0, .int .i64 0, .str ⟨#[]⟩, .int .i64 0, .int .i64 0, .str ⟨#[]⟩, .int .i64 0, .int .i64 0, .str ⟨#[]⟩, .int .i64 0, .int .i64 0, .str ⟨#[]⟩, .int .i64 0, .int .i64 0, .str ⟨#[]⟩, .int .i64 0, .int .i64 0, .str ⟨#[]⟩, .int .i64 0, .int .i64 0, .str ⟨#[]⟩, .int .i64 0, .int .i64 0, .str ⟨#[]⟩, .int .i64 0, .int .i64 0, .str ⟨#[]⟩, .int .i64 0, .int .i64 0, .str ⟨#[]⟩, .int .i64 0, .int .i64 0, .str ⟨#[]⟩, .int .i64 0, .int .i64 0] [(0, 3, (.t 1)), (3, 3, (.t 2)), (6, 3, (.t 3)), (9, 3, (.t 4)), (12, 3, (.t 5)), (15, 3, (.t 6)), (18, 3, (.t 7)), (21, 3, (.t 8)), (24, 3, (.t 9)), (27, 3, (.t 10)), (30, 3, (.t 11)), (33, 3, (.t 12)), (36, 3, (.t 13)), (39, 3, (.t 14)), (42, 3, (.t 15)), (45, 3, (.t 16)), (48, 3, (.t 17)), (51, 3, (.t 18)), (54, 3, (.t 19)), (57, 3, (.t 20)), (60, 3, (.t 21)), (63, 3, (.t 22)), (66, 3, (.t 23)), (69, 3, (.t 24)), (72, 3, (.t 25)), (75, 3, (.t 26)), (78, 3, (.t 27)), (81, 3, (.t 28)), (84, 3, (.t 29)), (87, 3, (.t 30)), (90, 3, (.t 31)), (93, 3, (.t 32)), (96, 3, (.t 33)), (99, 3, (.t 34)), (102, 3, (.t 35)), (105, 3, (.t 36)), (108, 3, (.t 37)), (111, 3, (.t 38)), (114, 3, (.t 39)), (117, 3, (.t 40)), (120, 3, (.t 41)), (123, 3, (.t 42)), (126, 3, (.t 43)), (129, 3, (.t 44)), (132, 3, (.t 45)), (135, 3, (.t 46)), (138, 3, (.t 47)), (141, 3, (.t 48)), (144, 3, (.t 49)), (147, 3, (.t 50)), (150, 3, (.t 51)), (153, 3, (.t 52)), (156, 3, (.t 53)), (159, 3, (.t 54)), (162, 3, (.t 55)), (165, 3, (.t 56)), (168, 3, (.t 57)), (171, 3, (.t 58)), (174, 3, (.t 59)), (177, 3, (.t 60)), (180, 3, (.t 61)), (183, 3, (.t 62)), (186, 3, (.t 63)), (189, 3, (.t 64)), (192, 3, (.t 65))], none, 65, []⟩,
    ⟨(some 0), .move (.t 66), none, 66, []⟩]) (RC.ret)))
theorem calls_table_ok : chkFunc Go.Proofs.Tryz.prog [0] Go.Proofs.Tryz.f148 calls_table = true := by kernel_rfl
def kern_Kernel_forget : RFunc := RFunc.mk 36 [] (
  RC.seq (RC.region 8 [
    ⟨(some 5), .move (.t 0), none, 0, []⟩,
    ⟨(some 6), .nilCheck (.t 5), none, 1, []⟩,
    ⟨(some 7), .fieldAddr 9 (.t 6), none, 2, []⟩,
    ⟨(some 8), .load none (.t 7), none, 3, []⟩,
    ⟨(some 9), .move (.t 1), none, 4, []⟩,
    ⟨(some 10), .indexSl 1 (.t 8) (.t 9), none, 5, []⟩,
    ⟨(some 11), .load none (.t 10), none, 6, []⟩,
    ⟨(some 4), .move (.t 11), none, 7, []⟩]) (RC.seq (RC.region 15 [
    ⟨(some 12), .move (.t 0), none, 0, []⟩,
    ⟨(some 13), .nilCheck (.t 12), none, 1, []⟩,
    ⟨(some 14), .fieldAddr 7 (.t 13), none, 2, []⟩,
    ⟨(some 15), .load none (.t 14), none, 3, []⟩,
    ⟨(some 16), .nilCheck (.t 15), none, 4, []⟩,
    ⟨(some 17), .fieldAddr 0 (.t 16), none, 5, []⟩,
    ⟨(some 18), .load none (.t 17), none, 6, []⟩,
    ⟨(some 19), .nilCheck (.t 18), none, 7, []⟩,
    ⟨(some 20), .fieldAddr 0 (.t 19), none, 8, []⟩,
    ⟨(some 21), .load none (.t 20), none, 9, []⟩,
    ⟨(some 22), .move (.t 4), none, 10, []⟩,
    ⟨(some 23), .nilCheck (.t 22), none, 11, []⟩,
    ⟨(some 24), .fieldAddr 5 (.t 23), none, 12, []⟩,
    ⟨(some 25), .load none (.t 24), none, 13, []⟩,
    ⟨(some 26), .call F.heap_Timers_Cancel [(.t 21), (.t 25)], none, 14, []⟩]) (RC.region 12 [
    ⟨(some 27), .move (.t 4), none, 0, []⟩,
    ⟨(some 28), .move (.t 4), none, 1, []⟩,
    ⟨(some 29), .move (.t 4), none, 2, []⟩,
    ⟨(some 30), .nilCheck (.t 27), none, 3, []⟩,
    ⟨(some 31), .fieldAddr 3 (.t 30), none, 4, []⟩,
    ⟨none, .store 1 (.t 31) (.c (.s (.int .i64 0))), none, 5, []⟩,
    ⟨(some 32), .nilCheck (.t 28), none, 6, []⟩,
    ⟨(some 33), .fieldAddr 4 (.t 32), none, 7, []⟩,
    ⟨none, .store 1 (.t 33) (.c (.s (.int .i64 0))), none, 8, []⟩,
    ⟨(some 34), .nilCheck (.t 29), none, 9, []⟩,
    ⟨(some 35), .fieldAddr 5 (.t 34), none, 10, []⟩,
    ⟨none, .store 1 (.t 35) (.c (.s (.int .i64 0))), none, 11, []⟩])))
theorem kern_Kernel_forget_ok : chkFunc Go.Proofs.Tryz.prog [0] Go.Proofs.Tryz.f149 kern_Kernel_forget = true := by kernel_rfl
def ready_Queue_Remove : RFunc := RFunc.mk 67 [.tmp 4] (
  RC.seq (RC.region 1 [
    ⟨(some 4), .move (.c (.s (.bool false))), none, 0, []⟩]) (RC.seq (RC.seq (RC.region 12 [
    ⟨(some 7), .move (.t 1), none, 0, []⟩,
    ⟨(some 8), .call F.ready_task [(.t 7)], none, 1, []⟩,
    ⟨(some 9), .un .not (.t 8), none, 2, []⟩,
    ⟨(some 10), .move (.t 9), none, 3, []⟩,
    ⟨(some 11), .move (.t 0), (some (10, false)), 4, []⟩,
    ⟨(some 12), .move (.t 1), (some (10, false)), 5, []⟩,
    ⟨(some 13), .nilCheck (.t 11), (some (10, false)), 6, []⟩,
    ⟨(some 14), .fieldAddr 21 (.t 13), (some (10, false)), 7, []⟩,
    ⟨(some 15), .indexArr 17 1 (.t 14) (.t 12), (some (10, false)), 8, []⟩,
    ⟨(some 16), .load none (.t 15), (some (10, false)), 9, []⟩,
    ⟨(some 17), .bin .eql (.t 16) (.c (.s (.int .i64 0))), (some (10, false)), 10, []⟩,
    ⟨(some 18), .pick (.t 10) (.c (.s (.bool true))) (.t 17), none, 11, []⟩]) (RC.cond (.t 18) (RC.seq (RC.region 1 [
    ⟨(some 4), .move (.c (.s (.bool false))), none, 0, []⟩]) (RC.ret)) (RC.skip))) (RC.seq (RC.region 7 [
    ⟨(some 19), .move (.t 0), none, 0, []⟩,
    ⟨(some 20), .move (.t 1), none, 1, []⟩,
    ⟨(some 21), .nilCheck (.t 19), none, 2, []⟩,
    ⟨(some 22), .fieldAddr 21 (.t 21), none, 3, []⟩,
    ⟨(some 23), .indexArr 17 1 (.t 22) (.t 20), none, 4, []⟩,
    ⟨(some 24), .load none (.t 23), none, 5, []⟩,
    ⟨(some 5), .move (.t 24), none, 6, []⟩]) (RC.seq (RC.region 9 [
    ⟨(some 25), .move (.t 0), none, 0, []⟩,
    ⟨(some 26), .move (.t 5), none, 1, []⟩,
    ⟨(some 27), .nilCheck (.t 25), none, 2, []⟩,
    ⟨(some 28), .fieldAddr 4 (.t 27), none, 3, []⟩,
    ⟨(some 29), .indexArr 17 1 (.t 28) (.t 26), none, 4, []⟩,
    ⟨(some 30), .load none (.t 29), none, 5, []⟩,
    ⟨(some 31), .move (.t 1), none, 6, []⟩,
    ⟨(some 32), .call F.slices_Index__int_int [(.t 30), (.t 31)], none, 7, []⟩,
    ⟨(some 6), .move (.t 32), none, 8, []⟩]) (RC.seq (RC.region 16 [
    ⟨(some 33), .move (.t 0), none, 0, []⟩,
    ⟨(some 34), .move (.t 5), none, 1, []⟩,
    ⟨(some 35), .move (.t 0), none, 2, []⟩,
    ⟨(some 36), .move (.t 5), none, 3, []⟩,
    ⟨(some 37), .nilCheck (.t 35), none, 4, []⟩,
    ⟨(some 38), .fieldAddr 4 (.t 37), none, 5, []⟩,
    ⟨(some 39), .indexArr 17 1 (.t 38) (.t 36), none, 6, []⟩,
    ⟨(some 40), .load none (.t 39), none, 7, []⟩,
    ⟨(some 41), .move (.t 6), none, 8, []⟩,
    ⟨(some 42), .move (.t 6), none, 9, []⟩,
    ⟨(some 43), .bin .add (.t 42) (.c (.s (.int .i64 1))), none, 10, []⟩,
    ⟨(some 45), .nilCheck (.t 33), none, 12, []⟩,
    ⟨(some 46), .fieldAddr 4 (.t 45), none, 13, []⟩,
    ⟨(some 44), .call F.slices_Delete__int_int [(.t 40), (.t 41), (.t 43)], none, 11, []⟩,
    ⟨(some 47), .indexArr 17 1 (.t 46) (.t 34), none, 14, []⟩,
    ⟨none, .store 1 (.t 47) (.t 44), none, 15, []⟩]) (RC.seq (RC.region 6 [
    ⟨(some 48), .move (.t 0), none, 0, []⟩,
    ⟨(some 49), .move (.t 1), none, 1, []⟩,
    ⟨(some 50), .nilCheck (.t 48), none, 2, []⟩,
    ⟨(some 51), .fieldAddr 21 (.t 50), none, 3, []⟩,
    ⟨(some 52), .indexArr 17 1 (.t 51) (.t 49), none, 4, []⟩,
    ⟨none, .store 1 (.t 52) (.c (.s (.int .i64 0))), none, 5, []⟩]) (RC.seq (RC.seq (RC.region 8 [
    ⟨(some 53), .move (.t 0), none, 0, []⟩,
    ⟨(some 54), .move (.t 5), none, 1, []⟩,
    ⟨(some 55), .nilCheck (.t 53), none, 2, []⟩,
    ⟨(some 56), .fieldAddr 4 (.t 55), none, 3, []⟩,
    ⟨(some 57), .indexArr 17 1 (.t 56) (.t 54), none, 4, []⟩,
    ⟨(some 58), .load none (.t 57), none, 5, []⟩,
    ⟨(some 59), .len (.t 58), none, 6, []⟩,
    ⟨(some 60), .bin .eql (.t 59) (.c (.s (.int .i64 0))), none, 7, []⟩]) (RC.cond (.t 60) (RC.region 6 [
    ⟨(some 61), .move (.t 0), none, 0, []⟩,
    ⟨(some 62), .nilCheck (.t 61), none, 1, []⟩,
    ⟨(some 63), .fieldAddr 0 (.t 62), none, 2, []⟩,
    ⟨(some 64), .move (.t 5), none, 3, []⟩,
    ⟨(some 65), .buildSlice 1 1 [.int .i64 0] [(0, 1, (.t 64))], none, 4, []⟩,
    ⟨(some 66), .call F.bits_Map_Clear [(.t 63), (.t 65)], none, 5, []⟩]) (RC.skip))) (RC.seq (RC.region 1 [
    ⟨(some 4), .move (.c (.s (.bool true))), none, 0, []⟩]) (RC.ret)))))))))
theorem ready_Queue_Remove_ok : chkFunc Go.Proofs.Tryz.prog [0] Go.Proofs.Tryz.f150 ready_Queue_Remove = true := by kernel_rfl
def mtx_All_Free_l0 : RC :=
  RC.seq (RC.region 1 [
    ⟨(some 15), .bin .lss (.t 14) (.t 13), none, 0, []⟩]) (RC.seq (RC.cond (.t 15) (RC.skip) (RC.exit 0)) (RC.seq (RC.block 1 (RC.seq (RC.region 3 [
    ⟨(some 16), .indexSl 1 (.t 12) (.t 14), none, 0, []⟩,
    ⟨(some 17), .load none (.t 16), none, 1, []⟩,
    ⟨(some 7), .move (.t 17), none, 2, []⟩]) (RC.seq (RC.region 9 [
    ⟨(some 19), .move (.t 0), none, 0, []⟩,
    ⟨(some 20), .move (.t 7), none, 1, []⟩,
    ⟨(some 21), .move (.t 1), none, 2, []⟩,
    ⟨(some 22), .call F.mtx_All_Unlock [(.t 19), (.t 20), (.t 21)], none, 3, []⟩,
    ⟨(some 18), .move (.t 22), none, 4, []⟩,
    ⟨(some 23), .extract 0 (.t 18), none, 5, []⟩,
    ⟨(some 24), .extract 1 (.t 18), none, 6, []⟩,
    ⟨(some 8), .move (.t 23), none, 7, []⟩,
    ⟨(some 9), .move (.t 24), none, 8, []⟩]) (RC.seq (RC.region 6 [
    ⟨(some 25), .move (.t 9), none, 0, []⟩,
    ⟨(some 26), .bin .eql (.t 25) (.c (.s (.int .i64 0))), none, 1, []⟩,
    ⟨(some 27), .move (.t 26), none, 2, []⟩,
    ⟨(some 28), .move (.t 8), (some (27, true)), 3, []⟩,
    ⟨(some 29), .bin .gtr (.t 28) (.c (.s (.int .i64 0))), (some (27, true)), 4, []⟩,
    ⟨(some 30), .pick (.t 27) (.t 29) (.c (.s (.bool false))), none, 5, []⟩]) (RC.cond (.t 30) (RC.region 5 [
    ⟨(some 31), .move (.t 5), none, 0, []⟩,
    ⟨(some 32), .move (.t 8), none, 1, []⟩,
    ⟨(some 33), .buildSlice 1 1 [.int .i64 0] [(0, 1, (.t 32))], none, 2, []⟩,
    ⟨(some 34), .append 1 8 (.t 31) (.t 33), none, 3, []⟩,
    ⟨(some 5), .move (.t 34), none, 4, []⟩]) (RC.skip)))))) (RC.region 2 [
    ⟨(some 35), .bin .add (.t 14) (.c (.s (.int .i64 1))), none, 0, []⟩,
    ⟨(some 14), .move (.t 35), none, 1, []⟩])))
def mtx_All_Free_s1 : RC :=
  RC.seq (RC.region 3 [
    ⟨(some 36), .move (.t 5), none, 0, []⟩,
    ⟨(some 37), .call F.slices_Clip__int_int [(.t 36)], none, 1, []⟩,
    ⟨(some 4), .move (.t 37), none, 2, []⟩]) (RC.ret)
def mtx_All_Free : RFunc := RFunc.mk 38 [.tmp 4] (
  RC.seq (RC.region 1 [
    ⟨(some 4), .move (.c (.s (.slice none 0 0 1))), none, 0, []⟩]) (RC.seq (RC.region 1 [
    ⟨(some 5), .move (.c (.s (.slice none 0 0 1))), none, 0, []⟩]) (RC.seq (RC.seq (RC.region 5 [
    ⟨(some 10), .move (.t 0), none, 0, []⟩,
    ⟨(some 11), .move (.t 1), none, 1, []⟩,
    ⟨(some 12), .call F.mtx_All_Held [(.t 10), (.t 11)], none, 2, []⟩,
    ⟨(some 13), .len (.t 12), none, 3, []⟩,
    ⟨(some 14), .move (.c (.s (.int .i64 0))), none, 4, []⟩]) (RC.block 0 (RC.loop R.mtx_All_Free_l0))) R.mtx_All_Free_s1)))
theorem mtx_All_Free_ok : chkFunc Go.Proofs.Tryz.prog [0] Go.Proofs.Tryz.f151 mtx_All_Free = true := by kernel_rfl
def tcb_Task_Kill : RFunc := RFunc.mk 9 [.tmp 2, .tmp 3] (
  RC.seq (RC.region 2 [
    ⟨(some 2), .move (.c (.s (.bool false))), none, 0, []⟩,
    ⟨(some 3), .move (.c (.s (.int .i64 0))), none, 1, []⟩]) (RC.seq (RC.seq (RC.region 3 [
    ⟨(some 4), .move (.t 0), none, 0, []⟩,
    ⟨(some 5), .buildSlice 1 1 [.int .i64 0] [(0, 1, (.c (.s (.int .i64 16))))], none, 1, []⟩,
    ⟨(some 6), .call F.tcb_Task_Is [(.t 4), (.t 5)], none, 2, []⟩]) (RC.cond (.t 6) (RC.seq (RC.region 2 [
    ⟨(some 2), .move (.c (.s (.bool false))), none, 0, []⟩,
    ⟨(some 3), .move (.c (.s (.int .i64 (-41)))), none, 1, []⟩]) (RC.ret)) (RC.skip))) (RC.seq (RC.region 4 [
    ⟨(some 7), .move (.t 0), none, 0, []⟩,
    ⟨(some 8), .call F.tcb_Task_end [(.t 7)], none, 1, []⟩,
    ⟨(some 2), .move (.t 8), none, 2, []⟩,
    ⟨(some 3), .move (.c (.s (.int .i64 0))), none, 3, []⟩]) (RC.ret))))
theorem tcb_Task_Kill_ok : chkFunc Go.Proofs.Tryz.prog [0] Go.Proofs.Tryz.f152 tcb_Task_Kill = true := by kernel_rfl
def ready_Queue_Rotate : RFunc := RFunc.mk 31 [.tmp 4] (
  RC.seq (RC.region 1 [
    ⟨(some 4), .move (.c (.s (.int .i64 0))), none, 0, []⟩]) (RC.seq (RC.seq (RC.region 3 [
    ⟨(some 6), .move (.t 1), none, 0, []⟩,
    ⟨(some 7), .call F.ready_may [(.t 6)], none, 1, []⟩,
    ⟨(some 8), .un .not (.t 7), none, 2, []⟩]) (RC.cond (.t 8) (RC.seq (RC.region 1 [
    ⟨(some 4), .move (.c (.s (.int .i64 (-17)))), none, 0, []⟩]) (RC.ret)) (RC.skip))) (RC.seq (RC.seq (RC.region 7 [
    ⟨(some 9), .move (.t 0), none, 0, []⟩,
    ⟨(some 10), .move (.t 1), none, 1, []⟩,
    ⟨(some 11), .nilCheck (.t 9), none, 2, []⟩,
    ⟨(some 12), .fieldAddr 4 (.t 11), none, 3, []⟩,
    ⟨(some 13), .indexArr 17 1 (.t 12) (.t 10), none, 4, []⟩,
    ⟨(some 14), .load none (.t 13), none, 5, []⟩,
    ⟨(some 5), .move (.t 14), none, 6, []⟩]) (RC.seq (RC.region 3 [
    ⟨(some 15), .move (.t 5), none, 0, []⟩,
    ⟨(some 16), .len (.t 15), none, 1, []⟩,
    ⟨(some 17), .bin .gtr (.t 16) (.c (.s (.int .i64 1))), none, 2, []⟩]) (RC.cond (.t 17) (RC.region 14 [
    ⟨(some 18), .move (.t 0), none, 0, []⟩,
    ⟨(some 19), .move (.t 1), none, 1, []⟩,
    ⟨(some 20), .move (.t 5), none, 2, []⟩,
    ⟨(some 21), .slSl 1 (.t 20) (some (.c (.s (.int .i64 1)))) none none, none, 3, []⟩,
    ⟨(some 23), .move (.t 5), none, 5, []⟩,
    ⟨(some 24), .indexSl 1 (.t 23) (.c (.s (.int .i64 0))), none, 6, []⟩,
    ⟨(some 25), .load none (.t 24), none, 7, []⟩,
    ⟨(some 28), .nilCheck (.t 18), none, 10, []⟩,
    ⟨(some 29), .fieldAddr 4 (.t 28), none, 11, []⟩,
    ⟨(some 22), .call F.slices_Clone__int_int [(.t 21)], none, 4, [⟨25, none, (.t 24), none⟩]⟩,
    ⟨(some 26), .buildSlice 1 1 [.int .i64 0] [(0, 1, (.t 25))], none, 8, []⟩,
    ⟨(some 27), .append 1 8 (.t 22) (.t 26), none, 9, []⟩,
    ⟨(some 30), .indexArr 17 1 (.t 29) (.t 19), none, 12, []⟩,
    ⟨none, .store 1 (.t 30) (.t 27), none, 13, []⟩]) (RC.skip)))) (RC.seq (RC.region 1 [
    ⟨(some 4), .move (.c (.s (.int .i64 0))), none, 0, []⟩]) (RC.ret)))))
theorem ready_Queue_Rotate_ok : chkFunc Go.Proofs.Tryz.prog [0] Go.Proofs.Tryz.f153 ready_Queue_Rotate = true := by kernel_rfl
def tcb_Task_Sleep : RFunc := RFunc.mk 31 [.tmp 2, .tmp 3] (
  RC.seq (RC.region 2 [
    ⟨(some 2), .move (.c (.s (.bool false))), none, 0, []⟩,
    ⟨(some 3), .move (.c (.s (.int .i64 0))), none, 1, []⟩]) (RC.seq (RC.block 0 (RC.seq (RC.region 5 [
    ⟨(some 5), .move (.t 0), none, 0, []⟩,
    ⟨(some 6), .buildSlice 1 1 [.int .i64 0] [(0, 1, (.c (.s (.int .i64 2))))], none, 1, []⟩,
    ⟨(some 7), .call F.tcb_Task_Is [(.t 5), (.t 6)], none, 2, []⟩,
    ⟨(some 8), .un .not (.t 7), none, 3, []⟩,
    ⟨(some 4), .move (.t 8), none, 4, []⟩]) (RC.cond (.t 4) (RC.seq (RC.region 2 [
    ⟨(some 2), .move (.c (.s (.bool false))), none, 0, []⟩,
    ⟨(some 3), .move (.c (.s (.int .i64 (-41)))), none, 1, []⟩]) (RC.ret)) (RC.seq (RC.region 7 [
    ⟨(some 10), .move (.t 0), none, 0, []⟩,
    ⟨(some 11), .nilCheck (.t 10), none, 1, []⟩,
    ⟨(some 12), .fieldAddr 0 (.t 11), none, 2, []⟩,
    ⟨(some 13), .fieldAddr 1 (.t 12), none, 3, []⟩,
    ⟨(some 14), .load none (.t 13), none, 4, []⟩,
    ⟨(some 15), .bin .gtr (.t 14) (.c (.s (.int .i64 0))), none, 5, []⟩,
    ⟨(some 9), .move (.t 15), none, 6, []⟩]) (RC.cond (.t 9) (RC.seq (RC.region 10 [
    ⟨(some 16), .move (.t 0), none, 0, []⟩,
    ⟨(some 17), .nilCheck (.t 16), none, 1, []⟩,
    ⟨(some 18), .fieldAddr 0 (.t 17), none, 2, []⟩,
    ⟨(some 19), .fieldAddr 1 (.t 18), none, 3, []⟩,
    ⟨(some 20), .load none (.t 19), none, 4, []⟩,
    ⟨(some 21), .bin .sub (.t 20) (.c (.s (.int .i64 1))), none, 5, []⟩,
    ⟨(some 22), .nilCheck (.t 16), none, 6, []⟩,
    ⟨(some 23), .fieldAddr 0 (.t 22), none, 7, []⟩,
    ⟨(some 24), .fieldAddr 1 (.t 23), none, 8, []⟩,
    ⟨none, .store 1 (.t 24) (.t 21), none, 9, []⟩]) (RC.seq (RC.region 2 [
    ⟨(some 2), .move (.c (.s (.bool false))), none, 0, []⟩,
    ⟨(some 3), .move (.c (.s (.int .i64 0))), none, 1, []⟩]) (RC.ret))) (RC.skip)))))) (RC.seq (RC.region 8 [
    ⟨(some 25), .move (.t 0), none, 0, []⟩,
    ⟨(some 26), .move (.t 0), none, 1, []⟩,
    ⟨(some 27), .nilCheck (.t 25), none, 2, []⟩,
    ⟨(some 28), .fieldAddr 3 (.t 27), none, 3, []⟩,
    ⟨none, .store 1 (.t 28) (.c (.s (.int .i64 4))), none, 4, []⟩,
    ⟨(some 29), .nilCheck (.t 26), none, 5, []⟩,
    ⟨(some 30), .fieldAddr 4 (.t 29), none, 6, []⟩,
    ⟨none, .store 1 (.t 30) (.c (.s (.bool true))), none, 7, []⟩]) (RC.seq (RC.region 2 [
    ⟨(some 2), .move (.c (.s (.bool true))), none, 0, []⟩,
    ⟨(some 3), .move (.c (.s (.int .i64 0))), none, 1, []⟩]) (RC.ret)))))
theorem tcb_Task_Sleep_ok : chkFunc Go.Proofs.Tryz.prog [0] Go.Proofs.Tryz.f154 tcb_Task_Sleep = true := by kernel_rfl
def tcb_Task_Stay : RFunc := RFunc.mk 13 [.tmp 2] (
  RC.seq (RC.region 1 [
    ⟨(some 2), .move (.c (.s (.int .i64 0))), none, 0, []⟩]) (RC.seq (RC.seq (RC.region 4 [
    ⟨(some 3), .move (.t 0), none, 0, []⟩,
    ⟨(some 4), .buildSlice 1 1 [.int .i64 0] [(0, 1, (.c (.s (.int .i64 2))))], none, 1, []⟩,
    ⟨(some 5), .call F.tcb_Task_Is [(.t 3), (.t 4)], none, 2, []⟩,
    ⟨(some 6), .un .not (.t 5), none, 3, []⟩]) (RC.cond (.t 6) (RC.seq (RC.region 1 [
    ⟨(some 2), .move (.c (.s (.int .i64 (-41)))), none, 0, []⟩]) (RC.ret)) (RC.skip))) (RC.seq (RC.region 8 [
    ⟨(some 7), .move (.t 0), none, 0, []⟩,
    ⟨(some 8), .move (.t 0), none, 1, []⟩,
    ⟨(some 9), .nilCheck (.t 7), none, 2, []⟩,
    ⟨(some 10), .fieldAddr 3 (.t 9), none, 3, []⟩,
    ⟨none, .store 1 (.t 10) (.c (.s (.int .i64 4))), none, 4, []⟩,
    ⟨(some 11), .nilCheck (.t 8), none, 5, []⟩,
    ⟨(some 12), .fieldAddr 4 (.t 11), none, 6, []⟩,
    ⟨none, .store 1 (.t 12) (.c (.s (.bool false))), none, 7, []⟩]) (RC.seq (RC.region 1 [
    ⟨(some 2), .move (.c (.s (.int .i64 0))), none, 0, []⟩]) (RC.ret)))))
theorem tcb_Task_Stay_ok : chkFunc Go.Proofs.Tryz.prog [0] Go.Proofs.Tryz.f155 tcb_Task_Stay = true := by kernel_rfl
def cyc_Hands_Wait : RFunc := RFunc.mk 23 [.tmp 6, .tmp 7] (
  RC.seq (RC.region 2 [
    ⟨(some 6), .move (.c (.s (.int .i64 0))), none, 0, []⟩,
    ⟨(some 7), .move (.c (.s (.int .i64 0))), none, 1, []⟩]) (RC.seq (RC.seq (RC.region 6 [
    ⟨(some 8), .move (.t 2), none, 0, []⟩,
    ⟨(some 9), .bin .lss (.t 8) (.c (.s (.int .i64 0))), none, 1, []⟩,
    ⟨(some 10), .move (.t 9), none, 2, []⟩,
    ⟨(some 11), .move (.t 2), (some (10, false)), 3, []⟩,
    ⟨(some 12), .bin .gtr (.t 11) (.c (.s (.int .i64 1000))), (some (10, false)), 4, []⟩,
    ⟨(some 13), .pick (.t 10) (.c (.s (.bool true))) (.t 12), none, 5, []⟩]) (RC.cond (.t 13) (RC.seq (RC.region 2 [
    ⟨(some 6), .move (.c (.s (.int .i64 0))), none, 0, []⟩,
    ⟨(some 7), .move (.c (.s (.int .i64 (-17)))), none, 1, []⟩]) (RC.ret)) (RC.skip))) (RC.seq (RC.region 11 [
    ⟨(some 14), .move (.t 0), none, 0, []⟩,
    ⟨(some 15), .nilCheck (.t 14), none, 1, []⟩,
    ⟨(some 16), .fieldAddr 0 (.t 15), none, 2, []⟩,
    ⟨(some 17), .load none (.t 16), none, 3, []⟩,
    ⟨(some 18), .move (.t 1), none, 4, []⟩,
    ⟨(some 19), .move (.t 2), none, 5, []⟩,
    ⟨(some 20), .call F.clock_Clock_After [(.t 17), (.t 18), (.t 19)], none, 6, []⟩,
    ⟨(some 21), .extract 0 (.t 20), none, 7, []⟩,
    ⟨(some 22), .extract 1 (.t 20), none, 8, []⟩,
    ⟨(some 6), .move (.t 21), none, 9, []⟩,
    ⟨(some 7), .move (.t 22), none, 10, []⟩]) (RC.ret))))
theorem cyc_Hands_Wait_ok : chkFunc Go.Proofs.Tryz.prog [0] Go.Proofs.Tryz.f156 cyc_Hands_Wait = true := by kernel_rfl
def tcb_Task_CanAct : RFunc := RFunc.mk 14 [.tmp 2] (
  RC.seq (RC.region 1 [
    ⟨(some 2), .move (.c (.s (.int .i64 0))), none, 0, []⟩]) (RC.seq (RC.region 6 [
    ⟨(some 4), .move (.t 0), none, 0, []⟩,
    ⟨(some 5), .nilCheck (.t 4), none, 1, []⟩,
    ⟨(some 6), .fieldAddr 0 (.t 5), none, 2, []⟩,
    ⟨(some 7), .fieldAddr 0 (.t 6), none, 3, []⟩,
    ⟨(some 8), .load none (.t 7), none, 4, []⟩,
    ⟨(some 3), .move (.t 8), none, 5, []⟩]) (RC.seq (RC.region 5 [
    ⟨(some 9), .move (.t 0), none, 0, []⟩,
    ⟨(some 10), .nilCheck (.t 9), none, 1, []⟩,
    ⟨(some 11), .fieldAddr 0 (.t 10), none, 2, []⟩,
    ⟨(some 12), .fieldAddr 0 (.t 11), none, 3, []⟩,
    ⟨none, .store 1 (.t 12) (.c (.s (.int .i64 0))), none, 4, []⟩]) (RC.seq (RC.region 2 [
    ⟨(some 13), .move (.t 3), none, 0, []⟩,
    ⟨(some 2), .move (.t 13), none, 1, []⟩]) (RC.ret)))))
theorem tcb_Task_CanAct_ok : chkFunc Go.Proofs.Tryz.prog [0] Go.Proofs.Tryz.f157 tcb_Task_CanAct = true := by kernel_rfl
def tcb_Task_Wake : RFunc := RFunc.mk 31 [.tmp 2, .tmp 3] (
  RC.seq (RC.region 2 [
    ⟨(some 2), .move (.c (.s (.bool false))), none, 0, []⟩,
    ⟨(some 3), .move (.c (.s (.int .i64 0))), none, 1, []⟩]) (RC.seq (RC.block 0 (RC.seq (RC.region 4 [
    ⟨(some 5), .move (.t 0), none, 0, []⟩,
    ⟨(some 6), .buildSlice 1 1 [.int .i64 0] [(0, 1, (.c (.s (.int .i64 16))))], none, 1, []⟩,
    ⟨(some 7), .call F.tcb_Task_Is [(.t 5), (.t 6)], none, 2, []⟩,
    ⟨(some 4), .move (.t 7), none, 3, []⟩]) (RC.cond (.t 4) (RC.seq (RC.region 2 [
    ⟨(some 2), .move (.c (.s (.bool false))), none, 0, []⟩,
    ⟨(some 3), .move (.c (.s (.int .i64 (-41)))), none, 1, []⟩]) (RC.ret)) (RC.seq (RC.region 5 [
    ⟨(some 9), .move (.t 0), none, 0, []⟩,
    ⟨(some 10), .nilCheck (.t 9), none, 1, []⟩,
    ⟨(some 11), .fieldAddr 4 (.t 10), none, 2, []⟩,
    ⟨(some 12), .load none (.t 11), none, 3, []⟩,
    ⟨(some 8), .move (.t 12), none, 4, []⟩]) (RC.cond (.t 8) (RC.seq (RC.region 2 [
    ⟨(some 13), .move (.t 0), none, 0, []⟩,
    ⟨(some 14), .call F.tcb_Task_Release [(.t 13)], none, 1, []⟩]) (RC.seq (RC.region 2 [
    ⟨(some 2), .move (.c (.s (.bool true))), none, 0, []⟩,
    ⟨(some 3), .move (.c (.s (.int .i64 0))), none, 1, []⟩]) (RC.ret))) (RC.seq (RC.region 7 [
    ⟨(some 16), .move (.t 0), none, 0, []⟩,
    ⟨(some 17), .nilCheck (.t 16), none, 1, []⟩,
    ⟨(some 18), .fieldAddr 0 (.t 17), none, 2, []⟩,
    ⟨(some 19), .fieldAddr 1 (.t 18), none, 3, []⟩,
    ⟨(some 20), .load none (.t 19), none, 4, []⟩,
    ⟨(some 21), .bin .geq (.t 20) (.c (.s (.int .i64 7))), none, 5, []⟩,
    ⟨(some 15), .move (.t 21), none, 6, []⟩]) (RC.cond (.t 15) (RC.seq (RC.region 2 [
    ⟨(some 2), .move (.c (.s (.bool false))), none, 0, []⟩,
    ⟨(some 3), .move (.c (.s (.int .i64 (-43)))), none, 1, []⟩]) (RC.ret)) (RC.skip)))))))) (RC.seq (RC.region 10 [
    ⟨(some 22), .move (.t 0), none, 0, []⟩,
    ⟨(some 23), .nilCheck (.t 22), none, 1, []⟩,
    ⟨(some 24), .fieldAddr 0 (.t 23), none, 2, []⟩,
    ⟨(some 25), .fieldAddr 1 (.t 24), none, 3, []⟩,
    ⟨(some 26), .load none (.t 25), none, 4, []⟩,
    ⟨(some 27), .bin .add (.t 26) (.c (.s (.int .i64 1))), none, 5, []⟩,
    ⟨(some 28), .nilCheck (.t 22), none, 6, []⟩,
    ⟨(some 29), .fieldAddr 0 (.t 28), none, 7, []⟩,
    ⟨(some 30), .fieldAddr 1 (.t 29), none, 8, []⟩,
    ⟨none, .store 1 (.t 30) (.t 27), none, 9, []⟩]) (RC.seq (RC.region 2 [
    ⟨(some 2), .move (.c (.s (.bool false))), none, 0, []⟩,
    ⟨(some 3), .move (.c (.s (.int .i64 0))), none, 1, []⟩]) (RC.ret)))))
theorem tcb_Task_Wake_ok : chkFunc Go.Proofs.Tryz.prog [0] Go.Proofs.Tryz.f158 tcb_Task_Wake = true := by kernel_rfl
def tcb_Task_CanWake : RFunc := RFunc.mk 18 [.tmp 2, .tmp 3] (
  RC.seq (RC.region 2 [
    ⟨(some 2), .move (.c (.s (.int .i64 0))), none, 0, []⟩,
    ⟨(some 3), .move (.c (.s (.int .i64 0))), none, 1, []⟩]) (RC.seq (RC.seq (RC.region 3 [
    ⟨(some 5), .move (.t 0), none, 0, []⟩,
    ⟨(some 6), .buildSlice 1 1 [.int .i64 0] [(0, 1, (.c (.s (.int .i64 16))))], none, 1, []⟩,
    ⟨(some 7), .call F.tcb_Task_Is [(.t 5), (.t 6)], none, 2, []⟩]) (RC.cond (.t 7) (RC.seq (RC.region 2 [
    ⟨(some 2), .move (.c (.s (.int .i64 0))), none, 0, []⟩,
    ⟨(some 3), .move (.c (.s (.int .i64 (-41)))), none, 1, []⟩]) (RC.ret)) (RC.skip))) (RC.seq (RC.region 6 [
    ⟨(some 8), .move (.t 0), none, 0, []⟩,
    ⟨(some 9), .nilCheck (.t 8), none, 1, []⟩,
    ⟨(some 10), .fieldAddr 0 (.t 9), none, 2, []⟩,
    ⟨(some 11), .fieldAddr 1 (.t 10), none, 3, []⟩,
    ⟨(some 12), .load none (.t 11), none, 4, []⟩,
    ⟨(some 4), .move (.t 12), none, 5, []⟩]) (RC.seq (RC.region 5 [
    ⟨(some 13), .move (.t 0), none, 0, []⟩,
    ⟨(some 14), .nilCheck (.t 13), none, 1, []⟩,
    ⟨(some 15), .fieldAddr 0 (.t 14), none, 2, []⟩,
    ⟨(some 16), .fieldAddr 1 (.t 15), none, 3, []⟩,
    ⟨none, .store 1 (.t 16) (.c (.s (.int .i64 0))), none, 4, []⟩]) (RC.seq (RC.region 3 [
    ⟨(some 17), .move (.t 4), none, 0, []⟩,
    ⟨(some 2), .move (.t 17), none, 1, []⟩,
    ⟨(some 3), .move (.c (.s (.int .i64 0))), none, 2, []⟩]) (RC.ret))))))
theorem tcb_Task_CanWake_ok : chkFunc Go.Proofs.Tryz.prog [0] Go.Proofs.Tryz.f159 tcb_Task_CanWake = true := by kernel_rfl
def tcb_Task_Suspend : RFunc := RFunc.mk 37 [.tmp 2] (
  RC.seq (RC.region 1 [
    ⟨(some 2), .move (.c (.s (.int .i64 0))), none, 0, []⟩]) (RC.seq (RC.block 0 (RC.seq (RC.region 4 [
    ⟨(some 4), .move (.t 0), none, 0, []⟩,
    ⟨(some 5), .buildSlice 1 1 [.int .i64 0] [(0, 1, (.c (.s (.int .i64 16))))], none, 1, []⟩,
    ⟨(some 6), .call F.tcb_Task_Is [(.t 4), (.t 5)], none, 2, []⟩,
    ⟨(some 3), .move (.t 6), none, 3, []⟩]) (RC.cond (.t 3) (RC.seq (RC.region 1 [
    ⟨(some 2), .move (.c (.s (.int .i64 (-41)))), none, 0, []⟩]) (RC.ret)) (RC.seq (RC.region 7 [
    ⟨(some 8), .move (.t 0), none, 0, []⟩,
    ⟨(some 9), .nilCheck (.t 8), none, 1, []⟩,
    ⟨(some 10), .fieldAddr 0 (.t 9), none, 2, []⟩,
    ⟨(some 11), .fieldAddr 2 (.t 10), none, 3, []⟩,
    ⟨(some 12), .load none (.t 11), none, 4, []⟩,
    ⟨(some 13), .bin .geq (.t 12) (.c (.s (.int .i64 7))), none, 5, []⟩,
    ⟨(some 7), .move (.t 13), none, 6, []⟩]) (RC.cond (.t 7) (RC.seq (RC.region 1 [
    ⟨(some 2), .move (.c (.s (.int .i64 (-43)))), none, 0, []⟩]) (RC.ret)) (RC.skip)))))) (RC.seq (RC.region 10 [
    ⟨(some 14), .move (.t 0), none, 0, []⟩,
    ⟨(some 15), .nilCheck (.t 14), none, 1, []⟩,
    ⟨(some 16), .fieldAddr 0 (.t 15), none, 2, []⟩,
    ⟨(some 17), .fieldAddr 2 (.t 16), none, 3, []⟩,
    ⟨(some 18), .load none (.t 17), none, 4, []⟩,
    ⟨(some 19), .bin .add (.t 18) (.c (.s (.int .i64 1))), none, 5, []⟩,
    ⟨(some 20), .nilCheck (.t 14), none, 6, []⟩,
    ⟨(some 21), .fieldAddr 0 (.t 20), none, 7, []⟩,
    ⟨(some 22), .fieldAddr 2 (.t 21), none, 8, []⟩,
    ⟨none, .store 1 (.t 22) (.t 19), none, 9, []⟩]) (RC.seq (RC.seq (RC.region 4 [
    ⟨(some 23), .move (.t 0), none, 0, []⟩,
    ⟨(some 24), .nilCheck (.t 23), none, 1, []⟩,
    ⟨(some 25), .fieldAddr 3 (.t 24), none, 2, []⟩,
    ⟨(some 26), .load none (.t 25), none, 3, []⟩]) (RC.block 1 (RC.seq (RC.region 2 [
    ⟨(some 28), .bin .eql (.t 26) (.c (.s (.int .i64 2))), none, 0, []⟩,
    ⟨(some 27), .move (.t 28), none, 1, []⟩]) (RC.cond (.t 27) (RC.region 4 [
    ⟨(some 29), .move (.t 0), none, 0, []⟩,
    ⟨(some 30), .nilCheck (.t 29), none, 1, []⟩,
    ⟨(some 31), .fieldAddr 3 (.t 30), none, 2, []⟩,
    ⟨none, .store 1 (.t 31) (.c (.s (.int .i64 8))), none, 3, []⟩]) (RC.seq (RC.region 2 [
    ⟨(some 33), .bin .eql (.t 26) (.c (.s (.int .i64 4))), none, 0, []⟩,
    ⟨(some 32), .move (.t 33), none, 1, []⟩]) (RC.cond (.t 32) (RC.region 4 [
    ⟨(some 34), .move (.t 0), none, 0, []⟩,
    ⟨(some 35), .nilCheck (.t 34), none, 1, []⟩,
    ⟨(some 36), .fieldAddr 3 (.t 35), none, 2, []⟩,
    ⟨none, .store 1 (.t 36) (.c (.s (.int .i64 12))), none, 3, []⟩]) (RC.skip))))))) (RC.seq (RC.region 1 [
    ⟨(some 2), .move (.c (.s (.int .i64 0))), none, 0, []⟩]) (RC.ret))))))
theorem tcb_Task_Suspend_ok : chkFunc Go.Proofs.Tryz.prog [0] Go.Proofs.Tryz.f160 tcb_Task_Suspend = true := by kernel_rfl
def tcb_Task_Resume_s0 : RC :=
  RC.seq (RC.seq (RC.region 6 [
    ⟨(some 24), .move (.t 0), none, 0, []⟩,
    ⟨(some 25), .nilCheck (.t 24), none, 1, []⟩,
    ⟨(some 26), .fieldAddr 0 (.t 25), none, 2, []⟩,
    ⟨(some 27), .fieldAddr 2 (.t 26), none, 3, []⟩,
    ⟨(some 28), .load none (.t 27), none, 4, []⟩,
    ⟨(some 29), .bin .gtr (.t 28) (.c (.s (.int .i64 0))), none, 5, []⟩]) (RC.cond (.t 29) (RC.seq (RC.region 2 [
    ⟨(some 4), .move (.c (.s (.bool false))), none, 0, []⟩,
    ⟨(some 5), .move (.c (.s (.int .i64 0))), none, 1, []⟩]) (RC.ret)) (RC.skip))) (RC.seq (RC.seq (RC.region 3 [
    ⟨(some 30), .move (.t 0), none, 0, []⟩,
    ⟨(some 31), .buildSlice 1 1 [.int .i64 0] [(0, 1, (.c (.s (.int .i64 8))))], none, 1, []⟩,
    ⟨(some 32), .call F.tcb_Task_Is [(.t 30), (.t 31)], none, 2, []⟩]) (RC.cond (.t 32) (RC.seq (RC.region 4 [
    ⟨(some 33), .move (.t 0), none, 0, []⟩,
    ⟨(some 34), .nilCheck (.t 33), none, 1, []⟩,
    ⟨(some 35), .fieldAddr 3 (.t 34), none, 2, []⟩,
    ⟨none, .store 1 (.t 35) (.c (.s (.int .i64 2))), none, 3, []⟩]) (RC.seq (RC.region 2 [
    ⟨(some 4), .move (.c (.s (.bool true))), none, 0, []⟩,
    ⟨(some 5), .move (.c (.s (.int .i64 0))), none, 1, []⟩]) (RC.ret))) (RC.skip))) (RC.seq (RC.region 4 [
    ⟨(some 36), .move (.t 0), none, 0, []⟩,
    ⟨(some 37), .nilCheck (.t 36), none, 1, []⟩,
    ⟨(some 38), .fieldAddr 3 (.t 37), none, 2, []⟩,
    ⟨none, .store 1 (.t 38) (.c (.s (.int .i64 4))), none, 3, []⟩]) (RC.seq (RC.region 2 [
    ⟨(some 4), .move (.c (.s (.bool false))), none, 0, []⟩,
    ⟨(some 5), .move (.c (.s (.int .i64 0))), none, 1, []⟩]) (RC.ret))))
def tcb_Task_Resume : RFunc := RFunc.mk 39 [.tmp 4, .tmp 5] (
  RC.seq (RC.region 2 [
    ⟨(some 4), .move (.c (.s (.bool false))), none, 0, []⟩,
    ⟨(some 5), .move (.c (.s (.int .i64 0))), none, 1, []⟩]) (RC.seq (RC.seq (RC.region 4 [
    ⟨(some 6), .move (.t 0), none, 0, []⟩,
    ⟨(some 7), .buildSlice 1 2 [.int .i64 0, .int .i64 0] [(0, 1, (.c (.s (.int .i64 8)))), (1, 1, (.c (.s (.int .i64 12))))], none, 1, []⟩,
    ⟨(some 8), .call F.tcb_Task_Is [(.t 6), (.t 7)], none, 2, []⟩,
    ⟨(some 9), .un .not (.t 8), none, 3, []⟩]) (RC.cond (.t 9) (RC.seq (RC.region 2 [
    ⟨(some 4), .move (.c (.s (.bool false))), none, 0, []⟩,
    ⟨(some 5), .move (.c (.s (.int .i64 (-41)))), none, 1, []⟩]) (RC.ret)) (RC.skip))) (RC.seq (RC.region 10 [
    ⟨(some 10), .move (.t 0), none, 0, []⟩,
    ⟨(some 11), .nilCheck (.t 10), none, 1, []⟩,
    ⟨(some 12), .fieldAddr 0 (.t 11), none, 2, []⟩,
    ⟨(some 13), .fieldAddr 2 (.t 12), none, 3, []⟩,
    ⟨(some 14), .load none (.t 13), none, 4, []⟩,
    ⟨(some 15), .bin .sub (.t 14) (.c (.s (.int .i64 1))), none, 5, []⟩,
    ⟨(some 16), .nilCheck (.t 10), none, 6, []⟩,
    ⟨(some 17), .fieldAddr 0 (.t 16), none, 7, []⟩,
    ⟨(some 18), .fieldAddr 2 (.t 17), none, 8, []⟩,
    ⟨none, .store 1 (.t 18) (.t 15), none, 9, []⟩]) (RC.seq (RC.seq (RC.region 1 [
    ⟨(some 19), .move (.t 1), none, 0, []⟩]) (RC.cond (.t 19) (RC.region 5 [
    ⟨(some 20), .move (.t 0), none, 0, []⟩,
    ⟨(some 21), .nilCheck (.t 20), none, 1, []⟩,
    ⟨(some 22), .fieldAddr 0 (.t 21), none, 2, []⟩,
    ⟨(some 23), .fieldAddr 2 (.t 22), none, 3, []⟩,
    ⟨none, .store 1 (.t 23) (.c (.s (.int .i64 0))), none, 4, []⟩]) (RC.skip))) R.tcb_Task_Resume_s0))))
theorem tcb_Task_Resume_ok : chkFunc Go.Proofs.Tryz.prog [0] Go.Proofs.Tryz.f161 tcb_Task_Resume = true := by kernel_rfl
def calls_Arity : RFunc := RFunc.mk 6 [.tmp 2] (
  RC.seq (RC.region 1 [
    ⟨(some 2), .move (.c (.s (.int .i64 0))), none, 0, []⟩]) (RC.seq (RC.region 4 [
    ⟨(some 3), .move (.t 0), none, 0, []⟩,
    ⟨(some 4), .call F.calls_of [(.t 3)], none, 1, []⟩,
    ⟨(some 5), .field none 1 (.t 4), none, 2, []⟩,
    ⟨(some 2), .move (.t 5), none, 3, []⟩]) (RC.ret)))
theorem calls_Arity_ok : chkFunc Go.Proofs.Tryz.prog [0] Go.Proofs.Tryz.f162 calls_Arity = true := by kernel_rfl
def order_Queue_Take_s0 : RC :=
  RC.seq (RC.region 4 [
    ⟨(some 20), .load (some 2) (.t 4), none, 0, []⟩,
    ⟨(some 21), .move (.t 5), none, 1, []⟩,
    ⟨none, .store 2 (.t 2) (.t 20), none, 2, []⟩,
    ⟨(some 3), .move (.t 21), none, 3, []⟩]) (RC.ret)
def order_Queue_Take : RFunc := RFunc.mk 22 [.cell 2 (some 2), .tmp 3] (
  RC.seq (RC.region 2 [
    ⟨(some 2), .newc [.int .i64 0, .int .i64 0], none, 0, []⟩,
    ⟨(some 3), .move (.c (.s (.bool false))), none, 1, []⟩]) (RC.seq (RC.region 10 [
    ⟨(some 7), .move (.t 0), none, 0, []⟩,
    ⟨(some 8), .nilCheck (.t 7), none, 1, []⟩,
    ⟨(some 9), .fieldAddr 0 (.t 8), none, 2, []⟩,
    ⟨(some 10), .call F.order_Line_First [(.t 9)], none, 3, []⟩,
    ⟨(some 6), .move (.t 10), none, 4, []⟩,
    ⟨(some 11), .extract 0 (.t 6), none, 5, []⟩,
    ⟨(some 12), .extract 1 (.t 6), none, 6, []⟩,
    ⟨(some 4), .newc [.int .i64 0, .int .i64 0], none, 7, []⟩,
    ⟨none, .store 2 (.t 4) (.t 11), none, 8, []⟩,
    ⟨(some 5), .move (.t 12), none, 9, []⟩]) (RC.seq (RC.seq (RC.region 1 [
    ⟨(some 13), .move (.t 5), none, 0, []⟩]) (RC.cond (.t 13) (RC.region 6 [
    ⟨(some 14), .move (.t 0), none, 0, []⟩,
    ⟨(some 15), .nilCheck (.t 14), none, 1, []⟩,
    ⟨(some 16), .fieldAddr 0 (.t 15), none, 2, []⟩,
    ⟨(some 17), .fieldAddr 0 (.t 4), none, 3, []⟩,
    ⟨(some 18), .load none (.t 17), none, 4, []⟩,
    ⟨(some 19), .call F.order_Line_Remove [(.t 16), (.t 18)], none, 5, []⟩]) (RC.skip))) R.order_Queue_Take_s0)))
theorem order_Queue_Take_ok : chkFunc Go.Proofs.Tryz.prog [0] Go.Proofs.Tryz.f163 order_Queue_Take = true := by kernel_rfl
def order_Queue_Add : RFunc := RFunc.mk 30 [.tmp 6] (
  RC.seq (RC.region 1 [
    ⟨(some 6), .move (.c (.s (.int .i64 0))), none, 0, []⟩]) (RC.seq (RC.block 0 (RC.seq (RC.region 12 [
    ⟨(some 8), .move (.t 1), none, 0, []⟩,
    ⟨(some 9), .bin .lss (.t 8) (.c (.s (.int .i64 1))), none, 1, []⟩,
    ⟨(some 10), .move (.t 9), none, 2, []⟩,
    ⟨(some 11), .move (.t 1), (some (10, false)), 3, []⟩,
    ⟨(some 12), .bin .gtr (.t 11) (.c (.s (.int .i64 16))), (some (10, false)), 4, []⟩,
    ⟨(some 13), .pick (.t 10) (.c (.s (.bool true))) (.t 12), none, 5, []⟩,
    ⟨(some 14), .move (.t 13), none, 6, []⟩,
    ⟨(some 15), .move (.t 2), (some (14, false)), 7, []⟩,
    ⟨(some 16), .call F.order_may [(.t 15)], (some (14, false)), 8, []⟩,
    ⟨(some 17), .un .not (.t 16), (some (14, false)), 9, []⟩,
    ⟨(some 18), .pick (.t 14) (.c (.s (.bool true))) (.t 17), none, 10, []⟩,
    ⟨(some 7), .move (.t 18), none, 11, []⟩]) (RC.cond (.t 7) (RC.seq (RC.region 1 [
    ⟨(some 6), .move (.c (.s (.int .i64 (-17)))), none, 0, []⟩]) (RC.ret)) (RC.seq (RC.region 6 [
    ⟨(some 20), .move (.t 0), none, 0, []⟩,
    ⟨(some 21), .nilCheck (.t 20), none, 1, []⟩,
    ⟨(some 22), .fieldAddr 0 (.t 21), none, 2, []⟩,
    ⟨(some 23), .move (.t 1), none, 3, []⟩,
    ⟨(some 24), .call F.order_Line_Has [(.t 22), (.t 23)], none, 4, []⟩,
    ⟨(some 19), .move (.t 24), none, 5, []⟩]) (RC.cond (.t 19) (RC.seq (RC.region 1 [
    ⟨(some 6), .move (.c (.s (.int .i64 (-41)))), none, 0, []⟩]) (RC.ret)) (RC.skip)))))) (RC.seq (RC.region 5 [
    ⟨(some 25), .move (.t 0), none, 0, []⟩,
    ⟨(some 26), .move (.t 1), none, 1, []⟩,
    ⟨(some 27), .move (.t 2), none, 2, []⟩,
    ⟨(some 28), .build [.int .i64 0, .int .i64 0] [(0, 1, (.t 26)), (1, 1, (.t 27))], none, 3, []⟩,
    ⟨(some 29), .call F.order_Queue_put [(.t 25), (.t 28)], none, 4, []⟩]) (RC.seq (RC.region 1 [
    ⟨(some 6), .move (.c (.s (.int .i64 0))), none, 0, []⟩]) (RC.ret)))))
theorem order_Queue_Add_ok : chkFunc Go.Proofs.Tryz.prog [0] Go.Proofs.Tryz.f164 order_Queue_Add = true := by kernel_rfl
def order_Line_Row : RFunc := RFunc.mk 9 [.tmp 2] (
  RC.seq (RC.region 1 [
    ⟨(some 2), .move (.c (.s (.slice none 0 0 1))), none, 0, []⟩]) (RC.seq (RC.region 7 [
    ⟨(some 3), .move (.t 0), none, 0, []⟩,
    ⟨(some 4), .nilCheck (.t 3), none, 1, []⟩,
    ⟨(some 5), .fieldAddr 0 (.t 4), none, 2, []⟩,
    ⟨(some 6), .load none (.t 5), none, 3, []⟩,
    ⟨(some 7), .call F.slices_Clone__order_Item_order_Item [(.t 6)], none, 4, []⟩,
    ⟨(some 8), .call F.slices_Clip__order_Item_order_Item [(.t 7)], none, 5, []⟩,
    ⟨(some 2), .move (.t 8), none, 6, []⟩]) (RC.ret)))
theorem order_Line_Row_ok : chkFunc Go.Proofs.Tryz.prog [0] Go.Proofs.Tryz.f165 order_Line_Row = true := by kernel_rfl
def flag_wish_met : RFunc := RFunc.mk 25 [.tmp 4] (
  RC.seq (RC.region 2 [
    ⟨(some 2), .box (.t 0), none, 0, []⟩,
    ⟨(some 4), .move (.c (.s (.bool false))), none, 1, []⟩]) (RC.seq (RC.seq (RC.region 3 [
    ⟨(some 5), .fieldAddr 1 (.t 2), none, 0, []⟩,
    ⟨(some 6), .load none (.t 5), none, 1, []⟩,
    ⟨(some 7), .bin .eql (.t 6) (.c (.s (.int .i64 0))), none, 2, []⟩]) (RC.cond (.t 7) (RC.seq (RC.region 13 [
    ⟨(some 8), .fieldAddr 0 (.t 2), none, 0, []⟩,
    ⟨(some 9), .load none (.t 8), none, 1, []⟩,
    ⟨(some 10), .bin .neq (.t 9) (.c (.s (.int .u32 0))), none, 2, []⟩,
    ⟨(some 11), .move (.t 10), none, 3, []⟩,
    ⟨(some 12), .move (.t 1), (some (11, true)), 4, []⟩,
    ⟨(some 13), .fieldAddr 0 (.t 2), (some (11, true)), 5, []⟩,
    ⟨(some 14), .load none (.t 13), (some (11, true)), 6, []⟩,
    ⟨(some 15), .bin .and (.t 12) (.t 14), (some (11, true)), 7, []⟩,
    ⟨(some 16), .fieldAddr 0 (.t 2), (some (11, true)), 8, []⟩,
    ⟨(some 17), .load none (.t 16), (some (11, true)), 9, []⟩,
    ⟨(some 18), .bin .eql (.t 15) (.t 17), (some (11, true)), 10, []⟩,
    ⟨(some 19), .pick (.t 11) (.t 18) (.c (.s (.bool false))), none, 11, []⟩,
    ⟨(some 4), .move (.t 19), none, 12, []⟩]) (RC.ret)) (RC.skip))) (RC.seq (RC.region 6 [
    ⟨(some 20), .move (.t 1), none, 0, []⟩,
    ⟨(some 21), .fieldAddr 0 (.t 2), none, 1, []⟩,
    ⟨(some 22), .load none (.t 21), none, 2, []⟩,
    ⟨(some 23), .bin .and (.t 20) (.t 22), none, 3, []⟩,
    ⟨(some 24), .bin .neq (.t 23) (.c (.s (.int .u32 0))), none, 4, []⟩,
    ⟨(some 4), .move (.t 24), none, 5, []⟩]) (RC.ret))))
theorem flag_wish_met_ok : chkFunc Go.Proofs.Tryz.prog [0] Go.Proofs.Tryz.f166 flag_wish_met = true := by kernel_rfl
def slices_Clip__flag_Woken_flag_Woken : RFunc := RFunc.mk 9 [.tmp 2] (
  RC.seq (RC.region 1 [
    ⟨(some 2), .move (.c (.s (.slice none 0 0 1))), none, 0, []⟩]) (RC.seq (RC.region 7 [
    ⟨(some 3), .move (.t 0), none, 0, []⟩,
    ⟨(some 4), .move (.t 0), none, 1, []⟩,
    ⟨(some 5), .len (.t 4), none, 2, []⟩,
    ⟨(some 6), .move (.t 0), none, 3, []⟩,
    ⟨(some 7), .len (.t 6), none, 4, []⟩,
    ⟨(some 8), .slSl 2 (.t 3) none (some (.t 5)) (some (.t 7)), none, 5, []⟩,
    ⟨(some 2), .move (.t 8), none, 6, []⟩]) (RC.ret)))
theorem slices_Clip__flag_Woken_flag_Woken_ok : chkFunc Go.Proofs.Tryz.prog [0] Go.Proofs.Tryz.f167 slices_Clip__flag_Woken_flag_Woken = true := by kernel_rfl
def order_Line_Len : RFunc := RFunc.mk 8 [.tmp 2] (
  RC.seq (RC.region 1 [
    ⟨(some 2), .move (.c (.s (.int .i64 0))), none, 0, []⟩]) (RC.seq (RC.region 6 [
    ⟨(some 3), .move (.t 0), none, 0, []⟩,
    ⟨(some 4), .nilCheck (.t 3), none, 1, []⟩,
    ⟨(some 5), .fieldAddr 0 (.t 4), none, 2, []⟩,
    ⟨(some 6), .load none (.t 5), none, 3, []⟩,
    ⟨(some 7), .len (.t 6), none, 4, []⟩,
    ⟨(some 2), .move (.t 7), none, 5, []⟩]) (RC.ret)))
theorem order_Line_Len_ok : chkFunc Go.Proofs.Tryz.prog [0] Go.Proofs.Tryz.f168 order_Line_Len = true := by kernel_rfl
def order_Line_Has : RFunc := RFunc.mk 9 [.tmp 4] (
  RC.seq (RC.region 1 [
    ⟨(some 4), .move (.c (.s (.bool false))), none, 0, []⟩]) (RC.seq (RC.region 5 [
    ⟨(some 5), .move (.t 0), none, 0, []⟩,
    ⟨(some 6), .move (.t 1), none, 1, []⟩,
    ⟨(some 7), .call F.order_Line_at [(.t 5), (.t 6)], none, 2, []⟩,
    ⟨(some 8), .bin .geq (.t 7) (.c (.s (.int .i64 0))), none, 3, []⟩,
    ⟨(some 4), .move (.t 8), none, 4, []⟩]) (RC.ret)))
theorem order_Line_Has_ok : chkFunc Go.Proofs.Tryz.prog [0] Go.Proofs.Tryz.f169 order_Line_Has = true := by kernel_rfl
def dtq_Queue_next : RFunc := RFunc.mk 35 [.tmp 2, .tmp 3, .tmp 4] (
  RC.seq (RC.region 3 [
    ⟨(some 2), .move (.c (.s (.int .i64 0))), none, 0, []⟩,
    ⟨(some 3), .move (.c (.s (.int .i64 0))), none, 1, []⟩,
    ⟨(some 4), .move (.c (.s (.bool false))), none, 2, []⟩]) (RC.seq (RC.region 12 [
    ⟨(some 9), .move (.t 0), none, 0, []⟩,
    ⟨(some 10), .nilCheck (.t 9), none, 1, []⟩,
    ⟨(some 11), .fieldAddr 0 (.t 10), none, 2, []⟩,
    ⟨(some 12), .fieldAddr 0 (.t 11), none, 3, []⟩,
    ⟨(some 13), .load none (.t 12), none, 4, []⟩,
    ⟨(some 14), .call F.order_Queue_Take [(.t 13)], none, 5, []⟩,
    ⟨(some 8), .move (.t 14), none, 6, []⟩,
    ⟨(some 15), .extract 0 (.t 8), none, 7, []⟩,
    ⟨(some 16), .extract 1 (.t 8), none, 8, []⟩,
    ⟨(some 5), .newc [.int .i64 0, .int .i64 0], none, 9, []⟩,
    ⟨none, .store 2 (.t 5) (.t 15), none, 10, []⟩,
    ⟨(some 6), .move (.t 16), none, 11, []⟩]) (RC.seq (RC.seq (RC.region 2 [
    ⟨(some 17), .move (.t 6), none, 0, []⟩,
    ⟨(some 18), .un .not (.t 17), none, 1, []⟩]) (RC.cond (.t 18) (RC.seq (RC.region 3 [
    ⟨(some 2), .move (.c (.s (.int .i64 0))), none, 0, []⟩,
    ⟨(some 3), .move (.c (.s (.int .i64 0))), none, 1, []⟩,
    ⟨(some 4), .move (.c (.s (.bool false))), none, 2, []⟩]) (RC.ret)) (RC.skip))) (RC.seq (RC.region 8 [
    ⟨(some 19), .move (.t 0), none, 0, []⟩,
    ⟨(some 20), .nilCheck (.t 19), none, 1, []⟩,
    ⟨(some 21), .fieldAddr 4 (.t 20), none, 2, []⟩,
    ⟨(some 22), .load none (.t 21), none, 3, []⟩,
    ⟨(some 23), .fieldAddr 0 (.t 5), none, 4, []⟩,
    ⟨(some 24), .load none (.t 23), none, 5, []⟩,
    ⟨(some 25), .hop (.lookup false) [(.t 22), (.t 24)], none, 6, []⟩,
    ⟨(some 7), .move (.t 25), none, 7, []⟩]) (RC.seq (RC.region 7 [
    ⟨(some 26), .move (.t 0), none, 0, []⟩,
    ⟨(some 27), .nilCheck (.t 26), none, 1, []⟩,
    ⟨(some 28), .fieldAddr 4 (.t 27), none, 2, []⟩,
    ⟨(some 29), .load none (.t 28), none, 3, []⟩,
    ⟨(some 30), .fieldAddr 0 (.t 5), none, 4, []⟩,
    ⟨(some 31), .load none (.t 30), none, 5, []⟩,
    ⟨none, .hop .delete [(.t 29), (.t 31)], none, 6, []⟩]) (RC.seq (RC.region 6 [
    ⟨(some 32), .move (.t 7), none, 0, []⟩,
    ⟨(some 33), .fieldAddr 0 (.t 5), none, 1, []⟩,
    ⟨(some 34), .load none (.t 33), none, 2, []⟩,
    ⟨(some 2), .move (.t 32), none, 3, []⟩,
    ⟨(some 3), .move (.t 34), none, 4, []⟩,
    ⟨(some 4), .move (.c (.s (.bool true))), none, 5, []⟩]) (RC.ret)))))))
theorem dtq_Queue_next_ok : chkFunc Go.Proofs.Tryz.prog [0] Go.Proofs.Tryz.f170 dtq_Queue_next = true := by kernel_rfl
def mtx_All_in : RFunc := RFunc.mk 16 [.tmp 4] (
  RC.seq (RC.region 1 [
    ⟨(some 4), .move (.c (.s (.bool false))), none, 0, []⟩]) (RC.seq (RC.region 12 [
    ⟨(some 5), .move (.t 1), none, 0, []⟩,
    ⟨(some 6), .bin .geq (.t 5) (.c (.s (.int .i64 1))), none, 1, []⟩,
    ⟨(some 7), .move (.t 6), none, 2, []⟩,
    ⟨(some 8), .move (.t 1), (some (7, true)), 3, []⟩,
    ⟨(some 9), .move (.t 0), (some (7, true)), 4, []⟩,
    ⟨(some 10), .nilCheck (.t 9), (some (7, true)), 5, []⟩,
    ⟨(some 11), .fieldAddr 0 (.t 10), (some (7, true)), 6, []⟩,
    ⟨(some 12), .load none (.t 11), (some (7, true)), 7, []⟩,
    ⟨(some 13), .len (.t 12), (some (7, true)), 8, []⟩,
    ⟨(some 14), .bin .lss (.t 8) (.t 13), (some (7, true)), 9, []⟩,
    ⟨(some 15), .pick (.t 7) (.t 14) (.c (.s (.bool false))), none, 10, []⟩,
    ⟨(some 4), .move (.t 15), none, 11, []⟩]) (RC.ret)))
theorem mtx_All_in_ok : chkFunc Go.Proofs.Tryz.prog [0] Go.Proofs.Tryz.f171 mtx_All_in = true := by kernel_rfl
def slices_Delete__int_int : RFunc := RFunc.mk 33 [.tmp 6] (
  RC.seq (RC.region 1 [
    ⟨(some 6), .move (.c (.s (.slice none 0 0 1))), none, 0, []⟩]) (RC.seq (RC.region 6 [
    ⟨(some 8), .move (.t 0), none, 0, []⟩,
    ⟨(some 9), .move (.t 1), none, 1, []⟩,
    ⟨(some 10), .move (.t 2), none, 2, []⟩,
    ⟨(some 11), .move (.t 0), none, 3, []⟩,
    ⟨(some 12), .len (.t 11), none, 4, []⟩,
    ⟨(some 13), .slSl 1 (.t 8) (some (.t 9)) (some (.t 10)) (some (.t 12)), none, 5, []⟩]) (RC.seq (RC.seq (RC.region 3 [
    ⟨(some 14), .move (.t 1), none, 0, []⟩,
    ⟨(some 15), .move (.t 2), none, 1, []⟩,
    ⟨(some 16), .bin .eql (.t 14) (.t 15), none, 2, []⟩]) (RC.cond (.t 16) (RC.seq (RC.region 2 [
    ⟨(some 17), .move (.t 0), none, 0, []⟩,
    ⟨(some 6), .move (.t 17), none, 1, []⟩]) (RC.ret)) (RC.skip))) (RC.seq (RC.region 3 [
    ⟨(some 18), .move (.t 0), none, 0, []⟩,
    ⟨(some 19), .len (.t 18), none, 1, []⟩,
    ⟨(some 7), .move (.t 19), none, 2, []⟩]) (RC.seq (RC.region 8 [
    ⟨(some 20), .move (.t 0), none, 0, []⟩,
    ⟨(some 21), .move (.t 1), none, 1, []⟩,
    ⟨(some 22), .slSl 1 (.t 20) none (some (.t 21)) none, none, 2, []⟩,
    ⟨(some 23), .move (.t 0), none, 3, []⟩,
    ⟨(some 24), .move (.t 2), none, 4, []⟩,
    ⟨(some 25), .slSl 1 (.t 23) (some (.t 24)) none none, none, 5, []⟩,
    ⟨(some 26), .append 1 8 (.t 22) (.t 25), none, 6, []⟩,
    ⟨(some 0), .move (.t 26), none, 7, []⟩]) (RC.seq (RC.region 6 [
    ⟨(some 27), .move (.t 0), none, 0, []⟩,
    ⟨(some 28), .move (.t 0), none, 1, []⟩,
    ⟨(some 29), .len (.t 28), none, 2, []⟩,
    ⟨(some 30), .move (.t 7), none, 3, []⟩,
    ⟨(some 31), .slSl 1 (.t 27) (some (.t 29)) (some (.t 30)) none, none, 4, []⟩,
    ⟨none, .clear 1 [.int .i64 0] (.t 31), none, 5, []⟩]) (RC.seq (RC.region 2 [
    ⟨(some 32), .move (.t 0), none, 0, []⟩,
    ⟨(some 6), .move (.t 32), none, 1, []⟩]) (RC.ret))))))))
theorem slices_Delete__int_int_ok : chkFunc Go.Proofs.Tryz.prog [0] Go.Proofs.Tryz.f172 slices_Delete__int_int = true := by kernel_rfl
def mtx_All_over_l0 : RC :=
  RC.seq (RC.region 1 [
    ⟨(some 9), .bin .lss (.t 8) (.c (.s (.int .i64 17))), none, 0, []⟩]) (RC.seq (RC.cond (.t 9) (RC.skip) (RC.exit 0)) (RC.seq (RC.block 1 (RC.seq (RC.region 8 [
    ⟨(some 10), .move (.t 0), none, 0, []⟩,
    ⟨(some 11), .move (.t 1), none, 1, []⟩,
    ⟨(some 12), .nilCheck (.t 10), none, 2, []⟩,
    ⟨(some 13), .fieldAddr 1 (.t 12), none, 3, []⟩,
    ⟨(some 14), .indexArr 17 3 (.t 13) (.t 11), none, 4, []⟩,
    ⟨(some 15), .fieldAddr 2 (.t 14), none, 5, []⟩,
    ⟨(some 16), .load none (.t 15), none, 6, []⟩,
    ⟨(some 7), .move (.t 16), none, 7, []⟩]) (RC.seq (RC.seq (RC.region 2 [
    ⟨(some 17), .move (.t 7), none, 0, []⟩,
    ⟨(some 18), .bin .eql (.t 17) (.c (.s (.int .i64 0))), none, 1, []⟩]) (RC.cond (.t 18) (RC.seq (RC.region 1 [
    ⟨(some 6), .move (.c (.s (.bool false))), none, 0, []⟩]) (RC.ret)) (RC.skip))) (RC.seq (RC.seq (RC.region 9 [
    ⟨(some 19), .move (.t 0), none, 0, []⟩,
    ⟨(some 20), .nilCheck (.t 19), none, 1, []⟩,
    ⟨(some 21), .fieldAddr 0 (.t 20), none, 2, []⟩,
    ⟨(some 22), .load none (.t 21), none, 3, []⟩,
    ⟨(some 23), .move (.t 7), none, 4, []⟩,
    ⟨(some 24), .indexSl 4 (.t 22) (.t 23), none, 5, []⟩,
    ⟨(some 25), .fieldAddr 2 (.t 24), none, 6, []⟩,
    ⟨(some 26), .load none (.t 25), none, 7, []⟩,
    ⟨(some 1), .move (.t 26), none, 8, []⟩]) (RC.seq (RC.region 3 [
    ⟨(some 27), .move (.t 1), none, 0, []⟩,
    ⟨(some 28), .move (.t 2), none, 1, []⟩,
    ⟨(some 29), .bin .eql (.t 27) (.t 28), none, 2, []⟩]) (RC.cond (.t 29) (RC.seq (RC.region 1 [
    ⟨(some 6), .move (.c (.s (.bool true))), none, 0, []⟩]) (RC.ret)) (RC.skip)))) (RC.seq (RC.region 2 [
    ⟨(some 30), .move (.t 1), none, 0, []⟩,
    ⟨(some 31), .bin .eql (.t 30) (.c (.s (.int .i64 0))), none, 1, []⟩]) (RC.cond (.t 31) (RC.seq (RC.region 1 [
    ⟨(some 6), .move (.c (.s (.bool false))), none, 0, []⟩]) (RC.ret)) (RC.skip))))))) (RC.region 2 [
    ⟨(some 32), .bin .add (.t 8) (.c (.s (.int .i64 1))), none, 0, []⟩,
    ⟨(some 8), .move (.t 32), none, 1, []⟩])))
def mtx_All_over_s1 : RC :=
  RC.seq (RC.region 1 [
    ⟨(some 6), .move (.c (.s (.bool false))), none, 0, []⟩]) (RC.ret)
def mtx_All_over : RFunc := RFunc.mk 33 [.tmp 6] (
  RC.seq (RC.region 1 [
    ⟨(some 6), .move (.c (.s (.bool false))), none, 0, []⟩]) (RC.seq (RC.seq (RC.region 1 [
    ⟨(some 8), .move (.c (.s (.int .i64 0))), none, 0, []⟩]) (RC.block 0 (RC.loop R.mtx_All_over_l0))) R.mtx_All_over_s1))
theorem mtx_All_over_ok : chkFunc Go.Proofs.Tryz.prog [0] Go.Proofs.Tryz.f173 mtx_All_over = true := by kernel_rfl
def mtx_All_stand_l0 : RC :=
  RC.seq (RC.seq (RC.region 34 [
    ⟨(some 19), .move (.t 6), none, 0, []⟩,
    ⟨(some 20), .nilCheck (.t 19), none, 1, []⟩,
    ⟨(some 21), .fieldAddr 0 (.t 20), none, 2, []⟩,
    ⟨(some 22), .fieldAddr 0 (.t 21), none, 3, []⟩,
    ⟨(some 23), .load none (.t 22), none, 4, []⟩,
    ⟨(some 24), .bin .neq (.t 23) (.c (.s (.int .i64 0))), none, 5, []⟩,
    ⟨(some 25), .move (.t 24), none, 6, []⟩,
    ⟨(some 26), .move (.t 7), (some (25, true)), 7, []⟩,
    ⟨(some 27), .bin .gtr (.t 26) (.c (.s (.int .i64 0))), (some (25, true)), 8, []⟩,
    ⟨(some 28), .pick (.t 25) (.t 27) (.c (.s (.bool false))), none, 9, []⟩,
    ⟨(some 29), .move (.t 28), none, 10, []⟩,
    ⟨(some 30), .move (.t 0), (some (29, true)), 11, []⟩,
    ⟨(some 31), .move (.t 6), (some (29, true)), 12, []⟩,
    ⟨(some 32), .nilCheck (.t 31), (some (29, true)), 13, []⟩,
    ⟨(some 33), .fieldAddr 3 (.t 32), (some (29, true)), 14, []⟩,
    ⟨(some 34), .load none (.t 33), (some (29, true)), 15, []⟩,
    ⟨(some 35), .move (.t 7), (some (29, true)), 16, []⟩,
    ⟨(some 36), .bin .sub (.t 35) (.c (.s (.int .i64 1))), (some (29, true)), 17, []⟩,
    ⟨(some 37), .indexSl 1 (.t 34) (.t 36), (some (29, true)), 18, []⟩,
    ⟨(some 38), .load none (.t 37), (some (29, true)), 19, []⟩,
    ⟨(some 39), .nilCheck (.t 30), (some (29, true)), 20, []⟩,
    ⟨(some 40), .fieldAddr 1 (.t 39), (some (29, true)), 21, []⟩,
    ⟨(some 41), .indexArr 17 3 (.t 40) (.t 38), (some (29, true)), 22, []⟩,
    ⟨(some 42), .fieldAddr 1 (.t 41), (some (29, true)), 23, []⟩,
    ⟨(some 43), .load none (.t 42), (some (29, true)), 24, []⟩,
    ⟨(some 44), .move (.t 0), (some (29, true)), 25, []⟩,
    ⟨(some 45), .move (.t 2), (some (29, true)), 26, []⟩,
    ⟨(some 46), .nilCheck (.t 44), (some (29, true)), 27, []⟩,
    ⟨(some 47), .fieldAddr 1 (.t 46), (some (29, true)), 28, []⟩,
    ⟨(some 48), .indexArr 17 3 (.t 47) (.t 45), (some (29, true)), 29, []⟩,
    ⟨(some 49), .fieldAddr 1 (.t 48), (some (29, true)), 30, []⟩,
    ⟨(some 50), .load none (.t 49), (some (29, true)), 31, []⟩,
    ⟨(some 51), .bin .gtr (.t 43) (.t 50), (some (29, true)), 32, []⟩,
    ⟨(some 52), .pick (.t 29) (.t 51) (.c (.s (.bool false))), none, 33, []⟩]) (RC.cond (.t 52) (RC.skip) (RC.exit 0))) (RC.block 1 (RC.region 3 [
    ⟨(some 53), .move (.t 7), none, 0, []⟩,
    ⟨(some 54), .bin .sub (.t 53) (.c (.s (.int .i64 1))), none, 1, []⟩,
    ⟨(some 7), .move (.t 54), none, 2, []⟩]))
def mtx_All_stand_s1 : RC :=
  RC.region 12 [
    ⟨(some 55), .move (.t 6), none, 0, []⟩,
    ⟨(some 56), .move (.t 6), none, 1, []⟩,
    ⟨(some 57), .nilCheck (.t 56), none, 2, []⟩,
    ⟨(some 58), .fieldAddr 3 (.t 57), none, 3, []⟩,
    ⟨(some 59), .load none (.t 58), none, 4, []⟩,
    ⟨(some 60), .move (.t 7), none, 5, []⟩,
    ⟨(some 61), .move (.t 2), none, 6, []⟩,
    ⟨(some 62), .buildSlice 1 1 [.int .i64 0] [(0, 1, (.t 61))], none, 7, []⟩,
    ⟨(some 63), .call F.slices_Insert__int_int [(.t 59), (.t 60), (.t 62)], none, 8, []⟩,
    ⟨(some 64), .nilCheck (.t 55), none, 9, []⟩,
    ⟨(some 65), .fieldAddr 3 (.t 64), none, 10, []⟩,
    ⟨none, .store 1 (.t 65) (.t 63), none, 11, []⟩]
def mtx_All_stand : RFunc := RFunc.mk 66 [] (
  RC.seq (RC.region 7 [
    ⟨(some 8), .move (.t 0), none, 0, []⟩,
    ⟨(some 9), .nilCheck (.t 8), none, 1, []⟩,
    ⟨(some 10), .fieldAddr 0 (.t 9), none, 2, []⟩,
    ⟨(some 11), .load none (.t 10), none, 3, []⟩,
    ⟨(some 12), .move (.t 1), none, 4, []⟩,
    ⟨(some 13), .indexSl 4 (.t 11) (.t 12), none, 5, []⟩,
    ⟨(some 6), .move (.t 13), none, 6, []⟩]) (RC.seq (RC.region 6 [
    ⟨(some 14), .move (.t 6), none, 0, []⟩,
    ⟨(some 15), .nilCheck (.t 14), none, 1, []⟩,
    ⟨(some 16), .fieldAddr 3 (.t 15), none, 2, []⟩,
    ⟨(some 17), .load none (.t 16), none, 3, []⟩,
    ⟨(some 18), .len (.t 17), none, 4, []⟩,
    ⟨(some 7), .move (.t 18), none, 5, []⟩]) (RC.seq (RC.block 0 (RC.loop R.mtx_All_stand_l0)) R.mtx_All_stand_s1)))
theorem mtx_All_stand_ok : chkFunc Go.Proofs.Tryz.prog [0] Go.Proofs.Tryz.f174 mtx_All_stand = true := by kernel_rfl
def slices_BinarySearch__int_int_l0 : RC :=
  RC.seq (RC.seq (RC.region 3 [
    ⟨(some 13), .move (.t 7), none, 0, []⟩,
    ⟨(some 14), .move (.t 8), none, 1, []⟩,
    ⟨(some 15), .bin .lss (.t 13) (.t 14), none, 2, []⟩]) (RC.cond (.t 15) (RC.skip) (RC.exit 0))) (RC.block 1 (RC.seq (RC.region 7 [
    ⟨(some 16), .move (.t 7), none, 0, []⟩,
    ⟨(some 17), .move (.t 8), none, 1, []⟩,
    ⟨(some 18), .bin .add (.t 16) (.t 17), none, 2, []⟩,
    ⟨(some 19), .conv .u64 (.t 18), none, 3, []⟩,
    ⟨(some 20), .bin .shr (.t 19) (.c (.s (.int .u64 1))), none, 4, []⟩,
    ⟨(some 21), .conv .i64 (.t 20), none, 5, []⟩,
    ⟨(some 9), .move (.t 21), none, 6, []⟩]) (RC.seq (RC.region 6 [
    ⟨(some 22), .move (.t 0), none, 0, []⟩,
    ⟨(some 23), .move (.t 9), none, 1, []⟩,
    ⟨(some 24), .indexSl 1 (.t 22) (.t 23), none, 2, []⟩,
    ⟨(some 25), .load none (.t 24), none, 3, []⟩,
    ⟨(some 26), .move (.t 1), none, 4, []⟩,
    ⟨(some 27), .call F.cmp_Less_int [(.t 25), (.t 26)], none, 5, []⟩]) (RC.cond (.t 27) (RC.region 3 [
    ⟨(some 28), .move (.t 9), none, 0, []⟩,
    ⟨(some 29), .bin .add (.t 28) (.c (.s (.int .i64 1))), none, 1, []⟩,
    ⟨(some 7), .move (.t 29), none, 2, []⟩]) (RC.region 2 [
    ⟨(some 30), .move (.t 9), none, 0, []⟩,
    ⟨(some 8), .move (.t 30), none, 1, []⟩])))))
def slices_BinarySearch__int_int_s1 : RC :=
  RC.seq (RC.region 25 [
    ⟨(some 31), .move (.t 7), none, 0, []⟩,
    ⟨(some 32), .move (.t 7), none, 1, []⟩,
    ⟨(some 33), .move (.t 6), none, 2, []⟩,
    ⟨(some 34), .bin .lss (.t 32) (.t 33), none, 3, []⟩,
    ⟨(some 35), .move (.t 34), none, 4, []⟩,
    ⟨(some 36), .move (.t 0), (some (35, true)), 5, []⟩,
    ⟨(some 37), .move (.t 7), (some (35, true)), 6, []⟩,
    ⟨(some 38), .indexSl 1 (.t 36) (.t 37), (some (35, true)), 7, []⟩,
    ⟨(some 39), .load none (.t 38), (some (35, true)), 8, []⟩,
    ⟨(some 40), .move (.t 1), (some (35, true)), 9, []⟩,
    ⟨(some 41), .bin .eql (.t 39) (.t 40), (some (35, true)), 10, []⟩,
    ⟨(some 42), .move (.t 41), (some (35, true)), 11, []⟩,
    ⟨(some 43), .move (.t 0), (some (42, false)), 12, []⟩,
    ⟨(some 44), .move (.t 7), (some (42, false)), 13, []⟩,
    ⟨(some 45), .indexSl 1 (.t 43) (.t 44), (some (42, false)), 14, []⟩,
    ⟨(some 46), .load none (.t 45), (some (42, false)), 15, []⟩,
    ⟨(some 47), .call F.slices_isNaN_int [(.t 46)], (some (42, false)), 16, []⟩,
    ⟨(some 48), .move (.t 47), (some (42, false)), 17, []⟩,
    ⟨(some 49), .move (.t 1), (some (48, true)), 18, []⟩,
    ⟨(some 50), .call F.slices_isNaN_int [(.t 49)], (some (48, true)), 19, []⟩,
    ⟨(some 51), .pick (.t 48) (.t 50) (.c (.s (.bool false))), (some (42, false)), 20, []⟩,
    ⟨(some 52), .pick (.t 42) (.c (.s (.bool true))) (.t 51), (some (35, true)), 21, []⟩,
    ⟨(some 53), .pick (.t 35) (.t 52) (.c (.s (.bool false))), none, 22, []⟩,
    ⟨(some 4), .move (.t 31), none, 23, []⟩,
    ⟨(some 5), .move (.t 53), none, 24, []⟩]) (RC.ret)
def slices_BinarySearch__int_int : RFunc := RFunc.mk 54 [.tmp 4, .tmp 5] (
  RC.seq (RC.region 2 [
    ⟨(some 4), .move (.c (.s (.int .i64 0))), none, 0, []⟩,
    ⟨(some 5), .move (.c (.s (.bool false))), none, 1, []⟩]) (RC.seq (RC.region 3 [
    ⟨(some 10), .move (.t 0), none, 0, []⟩,
    ⟨(some 11), .len (.t 10), none, 1, []⟩,
    ⟨(some 6), .move (.t 11), none, 2, []⟩]) (RC.seq (RC.region 3 [
    ⟨(some 12), .move (.t 6), none, 0, []⟩,
    ⟨(some 7), .move (.c (.s (.int .i64 0))), none, 1, []⟩,
    ⟨(some 8), .move (.t 12), none, 2, []⟩]) (RC.seq (RC.block 0 (RC.loop R.slices_BinarySearch__int_int_l0)) R.slices_BinarySearch__int_int_s1))))
theorem slices_BinarySearch__int_int_ok : chkFunc Go.Proofs.Tryz.prog [0] Go.Proofs.Tryz.f175 slices_BinarySearch__int_int = true := by kernel_rfl
def slices_Insert__int_int : RFunc := RFunc.mk 95 [.tmp 6] (
  RC.seq (RC.region 1 [
    ⟨(some 6), .move (.c (.s (.slice none 0 0 1))), none, 0, []⟩]) (RC.seq (RC.region 3 [
    ⟨(some 10), .move (.t 0), none, 0, []⟩,
    ⟨(some 11), .move (.t 1), none, 1, []⟩,
    ⟨(some 12), .slSl 1 (.t 10) (some (.t 11)) none none, none, 2, []⟩]) (RC.seq (RC.region 3 [
    ⟨(some 13), .move (.t 2), none, 0, []⟩,
    ⟨(some 14), .len (.t 13), none, 1, []⟩,
    ⟨(some 7), .move (.t 14), none, 2, []⟩]) (RC.seq (RC.seq (RC.region 2 [
    ⟨(some 15), .move (.t 7), none, 0, []⟩,
    ⟨(some 16), .bin .eql (.t 15) (.c (.s (.int .i64 0))), none, 1, []⟩]) (RC.cond (.t 16) (RC.seq (RC.region 2 [
    ⟨(some 17), .move (.t 0), none, 0, []⟩,
    ⟨(some 6), .move (.t 17), none, 1, []⟩]) (RC.ret)) (RC.skip))) (RC.seq (RC.region 3 [
    ⟨(some 18), .move (.t 0), none, 0, []⟩,
    ⟨(some 19), .len (.t 18), none, 1, []⟩,
    ⟨(some 8), .move (.t 19), none, 2, []⟩]) (RC.seq (RC.seq (RC.region 3 [
    ⟨(some 20), .move (.t 1), none, 0, []⟩,
    ⟨(some 21), .move (.t 8), none, 1, []⟩,
    ⟨(some 22), .bin .eql (.t 20) (.t 21), none, 2, []⟩]) (RC.cond (.t 22) (RC.seq (RC.region 4 [
    ⟨(some 23), .move (.t 0), none, 0, []⟩,
    ⟨(some 24), .move (.t 2), none, 1, []⟩,
    ⟨(some 25), .append 1 8 (.t 23) (.t 24), none, 2, []⟩,
    ⟨(some 6), .move (.t 25), none, 3, []⟩]) (RC.ret)) (RC.skip))) (RC.seq (RC.seq (RC.region 6 [
    ⟨(some 26), .move (.t 8), none, 0, []⟩,
    ⟨(some 27), .move (.t 7), none, 1, []⟩,
    ⟨(some 28), .bin .add (.t 26) (.t 27), none, 2, []⟩,
    ⟨(some 29), .move (.t 0), none, 3, []⟩,
    ⟨(some 30), .stuck, none, 4, []⟩,
    ⟨(some 31), .bin .gtr (.t 28) (.t 30), none, 5, []⟩]) (RC.cond (.t 31) (RC.seq (RC.region 10 [
    ⟨(some 32), .move (.t 0), none, 0, []⟩,
    ⟨(some 33), .move (.t 1), none, 1, []⟩,
    ⟨(some 34), .slSl 1 (.t 32) none (some (.t 33)) none, none, 2, []⟩,
    ⟨(some 35), .move (.t 8), none, 3, []⟩,
    ⟨(some 36), .move (.t 7), none, 4, []⟩,
    ⟨(some 37), .bin .add (.t 35) (.t 36), none, 5, []⟩,
    ⟨(some 38), .move (.t 1), none, 6, []⟩,
    ⟨(some 39), .bin .sub (.t 37) (.t 38), none, 7, []⟩,
    ⟨(some 40), .stuck, none, 8, []⟩,
    ⟨(some 9), .move (.t 40), none, 9, []⟩]) (RC.seq (RC.region 5 [
    ⟨(some 41), .move (.t 9), none, 0, []⟩,
    ⟨(some 42), .move (.t 1), none, 1, []⟩,
    ⟨(some 43), .slSl 1 (.t 41) (some (.t 42)) none none, none, 2, []⟩,
    ⟨(some 44), .move (.t 2), none, 3, []⟩,
    ⟨(some 45), .copy 1 (.t 43) (.t 44), none, 4, []⟩]) (RC.seq (RC.region 9 [
    ⟨(some 46), .move (.t 9), none, 0, []⟩,
    ⟨(some 47), .move (.t 1), none, 1, []⟩,
    ⟨(some 48), .move (.t 7), none, 2, []⟩,
    ⟨(some 49), .bin .add (.t 47) (.t 48), none, 3, []⟩,
    ⟨(some 50), .slSl 1 (.t 46) (some (.t 49)) none none, none, 4, []⟩,
    ⟨(some 51), .move (.t 0), none, 5, []⟩,
    ⟨(some 52), .move (.t 1), none, 6, []⟩,
    ⟨(some 53), .slSl 1 (.t 51) (some (.t 52)) none none, none, 7, []⟩,
    ⟨(some 54), .copy 1 (.t 50) (.t 53), none, 8, []⟩]) (RC.seq (RC.region 2 [
    ⟨(some 55), .move (.t 9), none, 0, []⟩,
    ⟨(some 6), .move (.t 55), none, 1, []⟩]) (RC.ret))))) (RC.skip))) (RC.seq (RC.region 6 [
    ⟨(some 56), .move (.t 0), none, 0, []⟩,
    ⟨(some 57), .move (.t 8), none, 1, []⟩,
    ⟨(some 58), .move (.t 7), none, 2, []⟩,
    ⟨(some 59), .bin .add (.t 57) (.t 58), none, 3, []⟩,
    ⟨(some 60), .slSl 1 (.t 56) none (some (.t 59)) none, none, 4, []⟩,
    ⟨(some 0), .move (.t 60), none, 5, []⟩]) (RC.seq (RC.seq (RC.region 8 [
    ⟨(some 61), .move (.t 2), none, 0, []⟩,
    ⟨(some 62), .move (.t 0), none, 1, []⟩,
    ⟨(some 63), .move (.t 1), none, 2, []⟩,
    ⟨(some 64), .move (.t 7), none, 3, []⟩,
    ⟨(some 65), .bin .add (.t 63) (.t 64), none, 4, []⟩,
    ⟨(some 66), .slSl 1 (.t 62) (some (.t 65)) none none, none, 5, []⟩,
    ⟨(some 67), .call F.slices_overlaps_int [(.t 61), (.t 66)], none, 6, []⟩,
    ⟨(some 68), .un .not (.t 67), none, 7, []⟩]) (RC.cond (.t 68) (RC.seq (RC.region 9 [
    ⟨(some 69), .move (.t 0), none, 0, []⟩,
    ⟨(some 70), .move (.t 1), none, 1, []⟩,
    ⟨(some 71), .move (.t 7), none, 2, []⟩,
    ⟨(some 72), .bin .add (.t 70) (.t 71), none, 3, []⟩,
    ⟨(some 73), .slSl 1 (.t 69) (some (.t 72)) none none, none, 4, []⟩,
    ⟨(some 74), .move (.t 0), none, 5, []⟩,
    ⟨(some 75), .move (.t 1), none, 6, []⟩,
    ⟨(some 76), .slSl 1 (.t 74) (some (.t 75)) none none, none, 7, []⟩,
    ⟨(some 77), .copy 1 (.t 73) (.t 76), none, 8, []⟩]) (RC.seq (RC.region 5 [
    ⟨(some 78), .move (.t 0), none, 0, []⟩,
    ⟨(some 79), .move (.t 1), none, 1, []⟩,
    ⟨(some 80), .slSl 1 (.t 78) (some (.t 79)) none none, none, 2, []⟩,
    ⟨(some 81), .move (.t 2), none, 3, []⟩,
    ⟨(some 82), .copy 1 (.t 80) (.t 81), none, 4, []⟩]) (RC.seq (RC.region 2 [
    ⟨(some 83), .move (.t 0), none, 0, []⟩,
    ⟨(some 6), .move (.t 83), none, 1, []⟩]) (RC.ret)))) (RC.skip))) (RC.seq (RC.region 5 [
    ⟨(some 84), .move (.t 0), none, 0, []⟩,
    ⟨(some 85), .move (.t 8), none, 1, []⟩,
    ⟨(some 86), .slSl 1 (.t 84) (some (.t 85)) none none, none, 2, []⟩,
    ⟨(some 87), .move (.t 2), none, 3, []⟩,
    ⟨(some 88), .copy 1 (.t 86) (.t 87), none, 4, []⟩]) (RC.seq (RC.region 5 [
    ⟨(some 89), .move (.t 0), none, 0, []⟩,
    ⟨(some 90), .move (.t 1), none, 1, []⟩,
    ⟨(some 91), .slSl 1 (.t 89) (some (.t 90)) none none, none, 2, []⟩,
    ⟨(some 92), .move (.t 7), none, 3, []⟩,
    ⟨(some 93), .call F.slices_rotateRight_int [(.t 91), (.t 92)], none, 4, []⟩]) (RC.seq (RC.region 2 [
    ⟨(some 94), .move (.t 0), none, 0, []⟩,
    ⟨(some 6), .move (.t 94), none, 1, []⟩]) (RC.ret)))))))))))))
theorem slices_Insert__int_int_ok : chkFunc Go.Proofs.Tryz.prog [0] Go.Proofs.Tryz.f176 slices_Insert__int_int = true := by kernel_rfl
def nums_Add : RFunc := RFunc.mk 9 [.tmp 4] (
  RC.seq (RC.region 1 [
    ⟨(some 4), .move (.c (.s (.int .u64 0))), none, 0, []⟩]) (RC.seq (RC.region 5 [
    ⟨(some 5), .move (.t 0), none, 0, []⟩,
    ⟨(some 6), .move (.t 1), none, 1, []⟩,
    ⟨(some 7), .bin .add (.t 5) (.t 6), none, 2, []⟩,
    ⟨(some 8), .bin .rem (.t 7) (.c (.s (.int .u64 281474976710656))), none, 3, []⟩,
    ⟨(some 4), .move (.t 8), none, 4, []⟩]) (RC.ret)))
theorem nums_Add_ok : chkFunc Go.Proofs.Tryz.prog [0] Go.Proofs.Tryz.f177 nums_Add = true := by kernel_rfl
def cyc_Hands_cyc : RFunc := RFunc.mk 23 [.tmp 4] (
  RC.seq (RC.region 1 [
    ⟨(some 4), .move (.c (.s (.ptr none))), none, 0, []⟩]) (RC.seq (RC.seq (RC.region 11 [
    ⟨(some 5), .move (.t 1), none, 0, []⟩,
    ⟨(some 6), .bin .lss (.t 5) (.c (.s (.int .i64 1))), none, 1, []⟩,
    ⟨(some 7), .move (.t 6), none, 2, []⟩,
    ⟨(some 8), .move (.t 1), (some (7, false)), 3, []⟩,
    ⟨(some 9), .move (.t 0), (some (7, false)), 4, []⟩,
    ⟨(some 10), .nilCheck (.t 9), (some (7, false)), 5, []⟩,
    ⟨(some 11), .fieldAddr 2 (.t 10), (some (7, false)), 6, []⟩,
    ⟨(some 12), .load none (.t 11), (some (7, false)), 7, []⟩,
    ⟨(some 13), .len (.t 12), (some (7, false)), 8, []⟩,
    ⟨(some 14), .bin .gtr (.t 8) (.t 13), (some (7, false)), 9, []⟩,
    ⟨(some 15), .pick (.t 7) (.c (.s (.bool true))) (.t 14), none, 10, []⟩]) (RC.cond (.t 15) (RC.seq (RC.region 1 [
    ⟨(some 4), .move (.c (.s (.ptr none))), none, 0, []⟩]) (RC.ret)) (RC.skip))) (RC.seq (RC.region 8 [
    ⟨(some 16), .move (.t 0), none, 0, []⟩,
    ⟨(some 17), .nilCheck (.t 16), none, 1, []⟩,
    ⟨(some 18), .fieldAddr 2 (.t 17), none, 2, []⟩,
    ⟨(some 19), .load none (.t 18), none, 3, []⟩,
    ⟨(some 20), .move (.t 1), none, 4, []⟩,
    ⟨(some 21), .bin .sub (.t 20) (.c (.s (.int .i64 1))), none, 5, []⟩,
    ⟨(some 22), .indexSl 5 (.t 19) (.t 21), none, 6, []⟩,
    ⟨(some 4), .move (.t 22), none, 7, []⟩]) (RC.ret))))
theorem cyc_Hands_cyc_ok : chkFunc Go.Proofs.Tryz.prog [0] Go.Proofs.Tryz.f178 cyc_Hands_cyc = true := by kernel_rfl
def cyc_Hands_alarm : RFunc := RFunc.mk 23 [.tmp 4] (
  RC.seq (RC.region 1 [
    ⟨(some 4), .move (.c (.s (.ptr none))), none, 0, []⟩]) (RC.seq (RC.seq (RC.region 11 [
    ⟨(some 5), .move (.t 1), none, 0, []⟩,
    ⟨(some 6), .bin .lss (.t 5) (.c (.s (.int .i64 1))), none, 1, []⟩,
    ⟨(some 7), .move (.t 6), none, 2, []⟩,
    ⟨(some 8), .move (.t 1), (some (7, false)), 3, []⟩,
    ⟨(some 9), .move (.t 0), (some (7, false)), 4, []⟩,
    ⟨(some 10), .nilCheck (.t 9), (some (7, false)), 5, []⟩,
    ⟨(some 11), .fieldAddr 3 (.t 10), (some (7, false)), 6, []⟩,
    ⟨(some 12), .load none (.t 11), (some (7, false)), 7, []⟩,
    ⟨(some 13), .len (.t 12), (some (7, false)), 8, []⟩,
    ⟨(some 14), .bin .gtr (.t 8) (.t 13), (some (7, false)), 9, []⟩,
    ⟨(some 15), .pick (.t 7) (.c (.s (.bool true))) (.t 14), none, 10, []⟩]) (RC.cond (.t 15) (RC.seq (RC.region 1 [
    ⟨(some 4), .move (.c (.s (.ptr none))), none, 0, []⟩]) (RC.ret)) (RC.skip))) (RC.seq (RC.region 8 [
    ⟨(some 16), .move (.t 0), none, 0, []⟩,
    ⟨(some 17), .nilCheck (.t 16), none, 1, []⟩,
    ⟨(some 18), .fieldAddr 3 (.t 17), none, 2, []⟩,
    ⟨(some 19), .load none (.t 18), none, 3, []⟩,
    ⟨(some 20), .move (.t 1), none, 4, []⟩,
    ⟨(some 21), .bin .sub (.t 20) (.c (.s (.int .i64 1))), none, 5, []⟩,
    ⟨(some 22), .indexSl 2 (.t 19) (.t 21), none, 6, []⟩,
    ⟨(some 4), .move (.t 22), none, 7, []⟩]) (RC.ret))))
theorem cyc_Hands_alarm_ok : chkFunc Go.Proofs.Tryz.prog [0] Go.Proofs.Tryz.f179 cyc_Hands_alarm = true := by kernel_rfl
def heap_Timers_Due_l0 : RC :=
  RC.seq (RC.seq (RC.region 17 [
    ⟨(some 6), .move (.t 0), none, 0, []⟩,
    ⟨(some 7), .nilCheck (.t 6), none, 1, []⟩,
    ⟨(some 8), .fieldAddr 0 (.t 7), none, 2, []⟩,
    ⟨(some 9), .load none (.t 8), none, 3, []⟩,
    ⟨(some 10), .len (.t 9), none, 4, []⟩,
    ⟨(some 11), .bin .gtr (.t 10) (.c (.s (.int .i64 0))), none, 5, []⟩,
    ⟨(some 12), .move (.t 11), none, 6, []⟩,
    ⟨(some 13), .move (.t 0), (some (12, true)), 7, []⟩,
    ⟨(some 14), .nilCheck (.t 13), (some (12, true)), 8, []⟩,
    ⟨(some 15), .fieldAddr 0 (.t 14), (some (12, true)), 9, []⟩,
    ⟨(some 16), .load none (.t 15), (some (12, true)), 10, []⟩,
    ⟨(some 17), .indexSl 3 (.t 16) (.c (.s (.int .i64 0))), (some (12, true)), 11, []⟩,
    ⟨(some 18), .fieldAddr 0 (.t 17), (some (12, true)), 12, []⟩,
    ⟨(some 19), .load none (.t 18), (some (12, true)), 13, []⟩,
    ⟨(some 20), .move (.t 1), (some (12, true)), 14, []⟩,
    ⟨(some 21), .bin .leq (.t 19) (.t 20), (some (12, true)), 15, []⟩,
    ⟨(some 22), .pick (.t 12) (.t 21) (.c (.s (.bool false))), none, 16, []⟩]) (RC.cond (.t 22) (RC.skip) (RC.exit 0))) (RC.block 1 (RC.seq (RC.region 11 [
    ⟨(some 23), .move (.t 5), none, 0, []⟩,
    ⟨(some 24), .move (.t 0), none, 1, []⟩,
    ⟨(some 25), .nilCheck (.t 24), none, 2, []⟩,
    ⟨(some 26), .fieldAddr 0 (.t 25), none, 3, []⟩,
    ⟨(some 27), .load none (.t 26), none, 4, []⟩,
    ⟨(some 28), .indexSl 3 (.t 27) (.c (.s (.int .i64 0))), none, 5, []⟩,
    ⟨(some 29), .fieldAddr 2 (.t 28), none, 6, []⟩,
    ⟨(some 30), .load none (.t 29), none, 7, []⟩,
    ⟨(some 31), .buildSlice 1 1 [.int .i64 0] [(0, 1, (.t 30))], none, 8, []⟩,
    ⟨(some 32), .append 1 8 (.t 23) (.t 31), none, 9, []⟩,
    ⟨(some 5), .move (.t 32), none, 10, []⟩]) (RC.region 2 [
    ⟨(some 33), .move (.t 0), none, 0, []⟩,
    ⟨(some 34), .call F.heap_Timers_remove [(.t 33), (.c (.s (.int .i64 0)))], none, 1, []⟩])))
def heap_Timers_Due_s1 : RC :=
  RC.seq (RC.region 2 [
    ⟨(some 35), .move (.t 5), none, 0, []⟩,
    ⟨(some 4), .move (.t 35), none, 1, []⟩]) (RC.ret)
def heap_Timers_Due : RFunc := RFunc.mk 36 [.tmp 4] (
  RC.seq (RC.region 1 [
    ⟨(some 4), .move (.c (.s (.slice none 0 0 1))), none, 0, []⟩]) (RC.seq (RC.region 1 [
    ⟨(some 5), .move (.c (.s (.slice none 0 0 1))), none, 0, []⟩]) (RC.seq (RC.block 0 (RC.loop R.heap_Timers_Due_l0)) R.heap_Timers_Due_s1)))
theorem heap_Timers_Due_ok : chkFunc Go.Proofs.Tryz.prog [0] Go.Proofs.Tryz.f180 heap_Timers_Due = true := by kernel_rfl
def slices_stableCmpFunc_cyc_Fired_l0 : RC :=
  RC.seq (RC.seq (RC.region 3 [
    ⟨(some 11), .move (.t 8), none, 0, []⟩,
    ⟨(some 12), .move (.t 1), none, 1, []⟩,
    ⟨(some 13), .bin .leq (.t 11) (.t 12), none, 2, []⟩]) (RC.cond (.t 13) (RC.skip) (RC.exit 0))) (RC.block 1 (RC.seq (RC.region 5 [
    ⟨(some 14), .move (.t 0), none, 0, []⟩,
    ⟨(some 15), .move (.t 7), none, 1, []⟩,
    ⟨(some 16), .move (.t 8), none, 2, []⟩,
    ⟨(some 17), .move (.t 2), none, 3, []⟩,
    ⟨(some 18), .call F.slices_insertionSortCmpFunc_cyc_Fired [(.t 14), (.t 15), (.t 16), (.t 17)], none, 4, []⟩]) (RC.seq (RC.region 2 [
    ⟨(some 19), .move (.t 8), none, 0, []⟩,
    ⟨(some 7), .move (.t 19), none, 1, []⟩]) (RC.region 4 [
    ⟨(some 20), .move (.t 8), none, 0, []⟩,
    ⟨(some 21), .move (.t 6), none, 1, []⟩,
    ⟨(some 22), .bin .add (.t 20) (.t 21), none, 2, []⟩,
    ⟨(some 8), .move (.t 22), none, 3, []⟩]))))
def slices_stableCmpFunc_cyc_Fired_l1 : RC :=
  RC.seq (RC.seq (RC.region 3 [
    ⟨(some 33), .move (.t 8), none, 0, []⟩,
    ⟨(some 34), .move (.t 1), none, 1, []⟩,
    ⟨(some 35), .bin .leq (.t 33) (.t 34), none, 2, []⟩]) (RC.cond (.t 35) (RC.skip) (RC.exit 4))) (RC.block 5 (RC.seq (RC.region 8 [
    ⟨(some 36), .move (.t 0), none, 0, []⟩,
    ⟨(some 37), .move (.t 7), none, 1, []⟩,
    ⟨(some 38), .move (.t 7), none, 2, []⟩,
    ⟨(some 39), .move (.t 6), none, 3, []⟩,
    ⟨(some 40), .bin .add (.t 38) (.t 39), none, 4, []⟩,
    ⟨(some 41), .move (.t 8), none, 5, []⟩,
    ⟨(some 42), .move (.t 2), none, 6, []⟩,
    ⟨(some 43), .call F.slices_symMergeCmpFunc_cyc_Fired [(.t 36), (.t 37), (.t 40), (.t 41), (.t 42)], none, 7, []⟩]) (RC.seq (RC.region 2 [
    ⟨(some 44), .move (.t 8), none, 0, []⟩,
    ⟨(some 7), .move (.t 44), none, 1, []⟩]) (RC.region 5 [
    ⟨(some 45), .move (.t 8), none, 0, []⟩,
    ⟨(some 46), .move (.t 6), none, 1, []⟩,
    ⟨(some 47), .bin .mul (.c (.s (.int .i64 2))) (.t 46), none, 2, []⟩,
    ⟨(some 48), .bin .add (.t 45) (.t 47), none, 3, []⟩,
    ⟨(some 8), .move (.t 48), none, 4, []⟩]))))
def slices_stableCmpFunc_cyc_Fired_s2 : RC :=
  RC.seq (RC.seq (RC.region 4 [
    ⟨(some 49), .move (.t 7), none, 0, []⟩,
    ⟨(some 50), .move (.t 6), none, 1, []⟩,
    ⟨(some 51), .bin .add (.t 49) (.t 50), none, 2, []⟩,
    ⟨(some 9), .move (.t 51), none, 3, []⟩]) (RC.seq (RC.region 3 [
    ⟨(some 52), .move (.t 9), none, 0, []⟩,
    ⟨(some 53), .move (.t 1), none, 1, []⟩,
    ⟨(some 54), .bin .lss (.t 52) (.t 53), none, 2, []⟩]) (RC.cond (.t 54) (RC.region 6 [
    ⟨(some 55), .move (.t 0), none, 0, []⟩,
    ⟨(some 56), .move (.t 7), none, 1, []⟩,
    ⟨(some 57), .move (.t 9), none, 2, []⟩,
    ⟨(some 58), .move (.t 1), none, 3, []⟩,
    ⟨(some 59), .move (.t 2), none, 4, []⟩,
    ⟨(some 60), .call F.slices_symMergeCmpFunc_cyc_Fired [(.t 55), (.t 56), (.t 57), (.t 58), (.t 59)], none, 5, []⟩]) (RC.skip)))) (RC.region 3 [
    ⟨(some 61), .move (.t 6), none, 0, []⟩,
    ⟨(some 62), .bin .mul (.t 61) (.c (.s (.int .i64 2))), none, 1, []⟩,
    ⟨(some 6), .move (.t 62), none, 2, []⟩])
def slices_stableCmpFunc_cyc_Fired_l3 : RC :=
  RC.seq (RC.seq (RC.region 3 [
    ⟨(some 28), .move (.t 6), none, 0, []⟩,
    ⟨(some 29), .move (.t 1), none, 1, []⟩,
    ⟨(some 30), .bin .lss (.t 28) (.t 29), none, 2, []⟩]) (RC.cond (.t 30) (RC.skip) (RC.exit 2))) (RC.block 3 (RC.seq (RC.region 4 [
    ⟨(some 31), .move (.t 6), none, 0, []⟩,
    ⟨(some 32), .bin .mul (.c (.s (.int .i64 2))) (.t 31), none, 1, []⟩,
    ⟨(some 7), .move (.c (.s (.int .i64 0))), none, 2, []⟩,
    ⟨(some 8), .move (.t 32), none, 3, []⟩]) (RC.seq (RC.block 4 (RC.loop R.slices_stableCmpFunc_cyc_Fired_l1)) R.slices_stableCmpFunc_cyc_Fired_s2)))
def slices_stableCmpFunc_cyc_Fired_s4 : RC :=
  RC.seq (RC.region 5 [
    ⟨(some 23), .move (.t 0), none, 0, []⟩,
    ⟨(some 24), .move (.t 7), none, 1, []⟩,
    ⟨(some 25), .move (.t 1), none, 2, []⟩,
    ⟨(some 26), .move (.t 2), none, 3, []⟩,
    ⟨(some 27), .call F.slices_insertionSortCmpFunc_cyc_Fired [(.t 23), (.t 24), (.t 25), (.t 26)], none, 4, []⟩]) (RC.block 2 (RC.loop R.slices_stableCmpFunc_cyc_Fired_l3))
def slices_stableCmpFunc_cyc_Fired : RFunc := RFunc.mk 63 [] (
  RC.seq (RC.region 1 [
    ⟨(some 6), .move (.c (.s (.int .i64 20))), none, 0, []⟩]) (RC.seq (RC.region 3 [
    ⟨(some 10), .move (.t 6), none, 0, []⟩,
    ⟨(some 7), .move (.c (.s (.int .i64 0))), none, 1, []⟩,
    ⟨(some 8), .move (.t 10), none, 2, []⟩]) (RC.seq (RC.block 0 (RC.loop R.slices_stableCmpFunc_cyc_Fired_l0)) R.slices_stableCmpFunc_cyc_Fired_s4)))
theorem slices_stableCmpFunc_cyc_Fired_ok : chkFunc Go.Proofs.Tryz.prog [0] Go.Proofs.Tryz.f181 slices_stableCmpFunc_cyc_Fired = true := by kernel_rfl
def cmp_Compare_uint64 : RFunc := RFunc.mk 20 [.tmp 4] (
  RC.seq (RC.region 1 [
    ⟨(some 4), .move (.c (.s (.int .i64 0))), none, 0, []⟩]) (RC.seq (RC.region 3 [
    ⟨(some 7), .move (.t 0), none, 0, []⟩,
    ⟨(some 8), .call F.cmp_isNaN_uint64 [(.t 7)], none, 1, []⟩,
    ⟨(some 5), .move (.t 8), none, 2, []⟩]) (RC.seq (RC.region 3 [
    ⟨(some 9), .move (.t 1), none, 0, []⟩,
    ⟨(some 10), .call F.cmp_isNaN_uint64 [(.t 9)], none, 1, []⟩,
    ⟨(some 6), .move (.t 10), none, 2, []⟩]) (RC.seq (RC.seq (RC.region 1 [
    ⟨(some 11), .move (.t 5), none, 0, []⟩]) (RC.cond (.t 11) (RC.seq (RC.seq (RC.region 1 [
    ⟨(some 12), .move (.t 6), none, 0, []⟩]) (RC.cond (.t 12) (RC.seq (RC.region 1 [
    ⟨(some 4), .move (.c (.s (.int .i64 0))), none, 0, []⟩]) (RC.ret)) (RC.skip))) (RC.seq (RC.region 1 [
    ⟨(some 4), .move (.c (.s (.int .i64 (-1)))), none, 0, []⟩]) (RC.ret))) (RC.skip))) (RC.seq (RC.seq (RC.region 1 [
    ⟨(some 13), .move (.t 6), none, 0, []⟩]) (RC.cond (.t 13) (RC.seq (RC.region 1 [
    ⟨(some 4), .move (.c (.s (.int .i64 1))), none, 0, []⟩]) (RC.ret)) (RC.skip))) (RC.seq (RC.seq (RC.region 3 [
    ⟨(some 14), .move (.t 0), none, 0, []⟩,
    ⟨(some 15), .move (.t 1), none, 1, []⟩,
    ⟨(some 16), .bin .lss (.t 14) (.t 15), none, 2, []⟩]) (RC.cond (.t 16) (RC.seq (RC.region 1 [
    ⟨(some 4), .move (.c (.s (.int .i64 (-1)))), none, 0, []⟩]) (RC.ret)) (RC.skip))) (RC.seq (RC.seq (RC.region 3 [
    ⟨(some 17), .move (.t 0), none, 0, []⟩,
    ⟨(some 18), .move (.t 1), none, 1, []⟩,
    ⟨(some 19), .bin .gtr (.t 17) (.t 18), none, 2, []⟩]) (RC.cond (.t 19) (RC.seq (RC.region 1 [
    ⟨(some 4), .move (.c (.s (.int .i64 1))), none, 0, []⟩]) (RC.ret)) (RC.skip))) (RC.seq (RC.region 1 [
    ⟨(some 4), .move (.c (.s (.int .i64 0))), none, 0, []⟩]) (RC.ret)))))))))
theorem cmp_Compare_uint64_ok : chkFunc Go.Proofs.Tryz.prog [0] Go.Proofs.Tryz.f182 cmp_Compare_uint64 = true := by kernel_rfl
def cmp_Compare_int : RFunc := RFunc.mk 20 [.tmp 4] (
  RC.seq (RC.region 1 [
    ⟨(some 4), .move (.c (.s (.int .i64 0))), none, 0, []⟩]) (RC.seq (RC.region 3 [
    ⟨(some 7), .move (.t 0), none, 0, []⟩,
    ⟨(some 8), .call F.cmp_isNaN_int [(.t 7)], none, 1, []⟩,
    ⟨(some 5), .move (.t 8), none, 2, []⟩]) (RC.seq (RC.region 3 [
    ⟨(some 9), .move (.t 1), none, 0, []⟩,
    ⟨(some 10), .call F.cmp_isNaN_int [(.t 9)], none, 1, []⟩,
    ⟨(some 6), .move (.t 10), none, 2, []⟩]) (RC.seq (RC.seq (RC.region 1 [
    ⟨(some 11), .move (.t 5), none, 0, []⟩]) (RC.cond (.t 11) (RC.seq (RC.seq (RC.region 1 [
    ⟨(some 12), .move (.t 6), none, 0, []⟩]) (RC.cond (.t 12) (RC.seq (RC.region 1 [
    ⟨(some 4), .move (.c (.s (.int .i64 0))), none, 0, []⟩]) (RC.ret)) (RC.skip))) (RC.seq (RC.region 1 [
    ⟨(some 4), .move (.c (.s (.int .i64 (-1)))), none, 0, []⟩]) (RC.ret))) (RC.skip))) (RC.seq (RC.seq (RC.region 1 [
    ⟨(some 13), .move (.t 6), none, 0, []⟩]) (RC.cond (.t 13) (RC.seq (RC.region 1 [
    ⟨(some 4), .move (.c (.s (.int .i64 1))), none, 0, []⟩]) (RC.ret)) (RC.skip))) (RC.seq (RC.seq (RC.region 3 [
    ⟨(some 14), .move (.t 0), none, 0, []⟩,
    ⟨(some 15), .move (.t 1), none, 1, []⟩,
    ⟨(some 16), .bin .lss (.t 14) (.t 15), none, 2, []⟩]) (RC.cond (.t 16) (RC.seq (RC.region 1 [
    ⟨(some 4), .move (.c (.s (.int .i64 (-1)))), none, 0, []⟩]) (RC.ret)) (RC.skip))) (RC.seq (RC.seq (RC.region 3 [
    ⟨(some 17), .move (.t 0), none, 0, []⟩,
    ⟨(some 18), .move (.t 1), none, 1, []⟩,
    ⟨(some 19), .bin .gtr (.t 17) (.t 18), none, 2, []⟩]) (RC.cond (.t 19) (RC.seq (RC.region 1 [
    ⟨(some 4), .move (.c (.s (.int .i64 1))), none, 0, []⟩]) (RC.ret)) (RC.skip))) (RC.seq (RC.region 1 [
    ⟨(some 4), .move (.c (.s (.int .i64 0))), none, 0, []⟩]) (RC.ret)))))))))
theorem cmp_Compare_int_ok : chkFunc Go.Proofs.Tryz.prog [0] Go.Proofs.Tryz.f183 cmp_Compare_int = true := by kernel_rfl
def order_Line_at : RFunc := RFunc.mk 11 [.tmp 4] (
  RC.seq (RC.region 2 [
    ⟨(some 3), .box (.t 1), none, 0, []⟩,
    ⟨(some 4), .move (.c (.s (.int .i64 0))), none, 1, []⟩]) (RC.seq (RC.region 7 [
    ⟨(some 5), .move (.t 0), none, 0, []⟩,
    ⟨(some 6), .nilCheck (.t 5), none, 1, []⟩,
    ⟨(some 7), .fieldAddr 0 (.t 6), none, 2, []⟩,
    ⟨(some 8), .load none (.t 7), none, 3, []⟩,
    ⟨(some 9), .makeFunc F.order_Line_at_1 [(.t 3)], none, 4, []⟩,
    ⟨(some 10), .call F.slices_IndexFunc__order_Item_order_Item [(.t 8), (.t 9)], none, 5, []⟩,
    ⟨(some 4), .move (.t 10), none, 6, []⟩]) (RC.ret)))
theorem order_Line_at_ok : chkFunc Go.Proofs.Tryz.prog [0] Go.Proofs.Tryz.f184 order_Line_at = true := by kernel_rfl
def slices_Delete__order_Item_order_Item : RFunc := RFunc.mk 33 [.tmp 6] (
  RC.seq (RC.region 1 [
    ⟨(some 6), .move (.c (.s (.slice none 0 0 1))), none, 0, []⟩]) (RC.seq (RC.region 6 [
    ⟨(some 8), .move (.t 0), none, 0, []⟩,
    ⟨(some 9), .move (.t 1), none, 1, []⟩,
    ⟨(some 10), .move (.t 2), none, 2, []⟩,
    ⟨(some 11), .move (.t 0), none, 3, []⟩,
    ⟨(some 12), .len (.t 11), none, 4, []⟩,
    ⟨(some 13), .slSl 2 (.t 8) (some (.t 9)) (some (.t 10)) (some (.t 12)), none, 5, []⟩]) (RC.seq (RC.seq (RC.region 3 [
    ⟨(some 14), .move (.t 1), none, 0, []⟩,
    ⟨(some 15), .move (.t 2), none, 1, []⟩,
    ⟨(some 16), .bin .eql (.t 14) (.t 15), none, 2, []⟩]) (RC.cond (.t 16) (RC.seq (RC.region 2 [
    ⟨(some 17), .move (.t 0), none, 0, []⟩,
    ⟨(some 6), .move (.t 17), none, 1, []⟩]) (RC.ret)) (RC.skip))) (RC.seq (RC.region 3 [
    ⟨(some 18), .move (.t 0), none, 0, []⟩,
    ⟨(some 19), .len (.t 18), none, 1, []⟩,
    ⟨(some 7), .move (.t 19), none, 2, []⟩]) (RC.seq (RC.region 8 [
    ⟨(some 20), .move (.t 0), none, 0, []⟩,
    ⟨(some 21), .move (.t 1), none, 1, []⟩,
    ⟨(some 22), .slSl 2 (.t 20) none (some (.t 21)) none, none, 2, []⟩,
    ⟨(some 23), .move (.t 0), none, 3, []⟩,
    ⟨(some 24), .move (.t 2), none, 4, []⟩,
    ⟨(some 25), .slSl 2 (.t 23) (some (.t 24)) none none, none, 5, []⟩,
    ⟨(some 26), .append 2 16 (.t 22) (.t 25), none, 6, []⟩,
    ⟨(some 0), .move (.t 26), none, 7, []⟩]) (RC.seq (RC.region 6 [
    ⟨(some 27), .move (.t 0), none, 0, []⟩,
    ⟨(some 28), .move (.t 0), none, 1, []⟩,
    ⟨(some 29), .len (.t 28), none, 2, []⟩,
    ⟨(some 30), .move (.t 7), none, 3, []⟩,
    ⟨(some 31), .slSl 2 (.t 27) (some (.t 29)) (some (.t 30)) none, none, 4, []⟩,
    ⟨none, .clear 2 [.int .i64 0, .int .i64 0] (.t 31), none, 5, []⟩]) (RC.seq (RC.region 2 [
    ⟨(some 32), .move (.t 0), none, 0, []⟩,
    ⟨(some 6), .move (.t 32), none, 1, []⟩]) (RC.ret))))))))
theorem slices_Delete__order_Item_order_Item_ok : chkFunc Go.Proofs.Tryz.prog [0] Go.Proofs.Tryz.f185 slices_Delete__order_Item_order_Item = true := by kernel_rfl
def slices_DeleteFunc__int_int_l0 : RC :=
  RC.seq (RC.seq (RC.region 4 [
    ⟨(some 16), .move (.t 6), none, 0, []⟩,
    ⟨(some 17), .move (.t 0), none, 1, []⟩,
    ⟨(some 18), .len (.t 17), none, 2, []⟩,
    ⟨(some 19), .bin .lss (.t 16) (.t 18), none, 3, []⟩]) (RC.cond (.t 19) (RC.skip) (RC.exit 0))) (RC.seq (RC.block 1 (RC.seq (RC.region 5 [
    ⟨(some 22), .move (.t 0), none, 0, []⟩,
    ⟨(some 23), .move (.t 6), none, 1, []⟩,
    ⟨(some 24), .indexSl 1 (.t 22) (.t 23), none, 2, []⟩,
    ⟨(some 25), .load none (.t 24), none, 3, []⟩,
    ⟨(some 7), .move (.t 25), none, 4, []⟩]) (RC.seq (RC.region 4 [
    ⟨(some 26), .move (.t 1), none, 0, []⟩,
    ⟨(some 27), .move (.t 7), none, 1, []⟩,
    ⟨(some 28), .callv (.t 26) [(.t 27)], none, 2, []⟩,
    ⟨(some 29), .un .not (.t 28), none, 3, []⟩]) (RC.cond (.t 29) (RC.seq (RC.region 5 [
    ⟨(some 30), .move (.t 0), none, 0, []⟩,
    ⟨(some 31), .move (.t 5), none, 1, []⟩,
    ⟨(some 32), .move (.t 7), none, 2, []⟩,
    ⟨(some 33), .indexSl 1 (.t 30) (.t 31), none, 3, []⟩,
    ⟨none, .store 1 (.t 33) (.t 32), none, 4, []⟩]) (RC.region 3 [
    ⟨(some 34), .move (.t 5), none, 0, []⟩,
    ⟨(some 35), .bin .add (.t 34) (.c (.s (.int .i64 1))), none, 1, []⟩,
    ⟨(some 5), .move (.t 35), none, 2, []⟩])) (RC.skip))))) (RC.region 3 [
    ⟨(some 20), .move (.t 6), none, 0, []⟩,
    ⟨(some 21), .bin .add (.t 20) (.c (.s (.int .i64 1))), none, 1, []⟩,
    ⟨(some 6), .move (.t 21), none, 2, []⟩]))
def slices_DeleteFunc__int_int_s1 : RC :=
  RC.seq (RC.region 4 [
    ⟨(some 36), .move (.t 0), none, 0, []⟩,
    ⟨(some 37), .move (.t 5), none, 1, []⟩,
    ⟨(some 38), .slSl 1 (.t 36) (some (.t 37)) none none, none, 2, []⟩,
    ⟨none, .clear 1 [.int .i64 0] (.t 38), none, 3, []⟩]) (RC.seq (RC.region 4 [
    ⟨(some 39), .move (.t 0), none, 0, []⟩,
    ⟨(some 40), .move (.t 5), none, 1, []⟩,
    ⟨(some 41), .slSl 1 (.t 39) none (some (.t 40)) none, none, 2, []⟩,
    ⟨(some 4), .move (.t 41), none, 3, []⟩]) (RC.ret))
def slices_DeleteFunc__int_int : RFunc := RFunc.mk 42 [.tmp 4] (
  RC.seq (RC.region 1 [
    ⟨(some 4), .move (.c (.s (.slice none 0 0 1))), none, 0, []⟩]) (RC.seq (RC.region 4 [
    ⟨(some 8), .move (.t 0), none, 0, []⟩,
    ⟨(some 9), .move (.t 1), none, 1, []⟩,
    ⟨(some 10), .call F.slices_IndexFunc__int_int [(.t 8), (.t 9)], none, 2, []⟩,
    ⟨(some 5), .move (.t 10), none, 3, []⟩]) (RC.seq (RC.seq (RC.region 2 [
    ⟨(some 11), .move (.t 5), none, 0, []⟩,
    ⟨(some 12), .bin .eql (.t 11) (.c (.s (.int .i64 (-1)))), none, 1, []⟩]) (RC.cond (.t 12) (RC.seq (RC.region 2 [
    ⟨(some 13), .move (.t 0), none, 0, []⟩,
    ⟨(some 4), .move (.t 13), none, 1, []⟩]) (RC.ret)) (RC.skip))) (RC.seq (RC.seq (RC.region 3 [
    ⟨(some 14), .move (.t 5), none, 0, []⟩,
    ⟨(some 15), .bin .add (.t 14) (.c (.s (.int .i64 1))), none, 1, []⟩,
    ⟨(some 6), .move (.t 15), none, 2, []⟩]) (RC.block 0 (RC.loop R.slices_DeleteFunc__int_int_l0))) R.slices_DeleteFunc__int_int_s1))))
theorem slices_DeleteFunc__int_int_ok : chkFunc Go.Proofs.Tryz.prog [0] Go.Proofs.Tryz.f186 slices_DeleteFunc__int_int = true := by kernel_rfl
def mtx_All_Drop_1 : RFunc := RFunc.mk 7 [.tmp 3] (
  RC.seq (RC.region 1 [
    ⟨(some 3), .move (.c (.s (.bool false))), none, 0, []⟩]) (RC.seq (RC.region 4 [
    ⟨(some 4), .move (.t 0), none, 0, []⟩,
    ⟨(some 5), .load none (.t 1), none, 1, []⟩,
    ⟨(some 6), .bin .eql (.t 4) (.t 5), none, 2, []⟩,
    ⟨(some 3), .move (.t 6), none, 3, []⟩]) (RC.ret)))
theorem mtx_All_Drop_1_ok : chkFunc Go.Proofs.Tryz.prog [0] Go.Proofs.Tryz.f187 mtx_All_Drop_1 = true := by kernel_rfl
def ready_may : RFunc := RFunc.mk 9 [.tmp 2] (
  RC.seq (RC.region 1 [
    ⟨(some 2), .move (.c (.s (.bool false))), none, 0, []⟩]) (RC.seq (RC.region 7 [
    ⟨(some 3), .move (.t 0), none, 0, []⟩,
    ⟨(some 4), .bin .geq (.t 3) (.c (.s (.int .i64 1))), none, 1, []⟩,
    ⟨(some 5), .move (.t 4), none, 2, []⟩,
    ⟨(some 6), .move (.t 0), (some (5, true)), 3, []⟩,
    ⟨(some 7), .bin .leq (.t 6) (.c (.s (.int .i64 16))), (some (5, true)), 4, []⟩,
    ⟨(some 8), .pick (.t 5) (.t 7) (.c (.s (.bool false))), none, 5, []⟩,
    ⟨(some 2), .move (.t 8), none, 6, []⟩]) (RC.ret)))
theorem ready_may_ok : chkFunc Go.Proofs.Tryz.prog [0] Go.Proofs.Tryz.f188 ready_may = true := by kernel_rfl
def ready_Queue_put : RFunc := RFunc.mk 32 [] (
  RC.seq (RC.region 15 [
    ⟨(some 6), .move (.t 0), none, 0, []⟩,
    ⟨(some 7), .move (.t 2), none, 1, []⟩,
    ⟨(some 8), .move (.t 0), none, 2, []⟩,
    ⟨(some 9), .move (.t 2), none, 3, []⟩,
    ⟨(some 10), .nilCheck (.t 8), none, 4, []⟩,
    ⟨(some 11), .fieldAddr 4 (.t 10), none, 5, []⟩,
    ⟨(some 12), .indexArr 17 1 (.t 11) (.t 9), none, 6, []⟩,
    ⟨(some 13), .load none (.t 12), none, 7, []⟩,
    ⟨(some 14), .move (.t 1), none, 8, []⟩,
    ⟨(some 17), .nilCheck (.t 6), none, 11, []⟩,
    ⟨(some 18), .fieldAddr 4 (.t 17), none, 12, []⟩,
    ⟨(some 15), .buildSlice 1 1 [.int .i64 0] [(0, 1, (.t 14))], none, 9, []⟩,
    ⟨(some 16), .append 1 8 (.t 13) (.t 15), none, 10, []⟩,
    ⟨(some 19), .indexArr 17 1 (.t 18) (.t 7), none, 13, []⟩,
    ⟨none, .store 1 (.t 19) (.t 16), none, 14, []⟩]) (RC.seq (RC.region 7 [
    ⟨(some 20), .move (.t 0), none, 0, []⟩,
    ⟨(some 21), .move (.t 1), none, 1, []⟩,
    ⟨(some 22), .move (.t 2), none, 2, []⟩,
    ⟨(some 23), .nilCheck (.t 20), none, 3, []⟩,
    ⟨(some 24), .fieldAddr 21 (.t 23), none, 4, []⟩,
    ⟨(some 25), .indexArr 17 1 (.t 24) (.t 21), none, 5, []⟩,
    ⟨none, .store 1 (.t 25) (.t 22), none, 6, []⟩]) (RC.region 6 [
    ⟨(some 26), .move (.t 0), none, 0, []⟩,
    ⟨(some 27), .nilCheck (.t 26), none, 1, []⟩,
    ⟨(some 28), .fieldAddr 0 (.t 27), none, 2, []⟩,
    ⟨(some 29), .move (.t 2), none, 3, []⟩,
    ⟨(some 30), .buildSlice 1 1 [.int .i64 0] [(0, 1, (.t 29))], none, 4, []⟩,
    ⟨(some 31), .call F.bits_Map_Set [(.t 28), (.t 30)], none, 5, []⟩])))
theorem ready_Queue_put_ok : chkFunc Go.Proofs.Tryz.prog [0] Go.Proofs.Tryz.f189 ready_Queue_put = true := by kernel_rfl
def order_may : RFunc := RFunc.mk 9 [.tmp 2] (
  RC.seq (RC.region 1 [
    ⟨(some 2), .move (.c (.s (.bool false))), none, 0, []⟩]) (RC.seq (RC.region 7 [
    ⟨(some 3), .move (.t 0), none, 0, []⟩,
    ⟨(some 4), .bin .geq (.t 3) (.c (.s (.int .i64 1))), none, 1, []⟩,
    ⟨(some 5), .move (.t 4), none, 2, []⟩,
    ⟨(some 6), .move (.t 0), (some (5, true)), 3, []⟩,
    ⟨(some 7), .bin .leq (.t 6) (.c (.s (.int .i64 16))), (some (5, true)), 4, []⟩,
    ⟨(some 8), .pick (.t 5) (.t 7) (.c (.s (.bool false))), none, 5, []⟩,
    ⟨(some 2), .move (.t 8), none, 6, []⟩]) (RC.ret)))
theorem order_may_ok : chkFunc Go.Proofs.Tryz.prog [0] Go.Proofs.Tryz.f190 order_may = true := by kernel_rfl
def order_Queue_put_l0 : RC :=
  RC.seq (RC.seq (RC.region 23 [
    ⟨(some 11), .move (.t 0), none, 0, []⟩,
    ⟨(some 12), .nilCheck (.t 11), none, 1, []⟩,
    ⟨(some 13), .fieldAddr 1 (.t 12), none, 2, []⟩,
    ⟨(some 14), .load none (.t 13), none, 3, []⟩,
    ⟨(some 15), .move (.t 14), none, 4, []⟩,
    ⟨(some 16), .move (.t 4), (some (15, true)), 5, []⟩,
    ⟨(some 17), .bin .gtr (.t 16) (.c (.s (.int .i64 0))), (some (15, true)), 6, []⟩,
    ⟨(some 18), .pick (.t 15) (.t 17) (.c (.s (.bool false))), none, 7, []⟩,
    ⟨(some 19), .move (.t 18), none, 8, []⟩,
    ⟨(some 20), .move (.t 0), (some (19, true)), 9, []⟩,
    ⟨(some 21), .nilCheck (.t 20), (some (19, true)), 10, []⟩,
    ⟨(some 22), .fieldAddr 0 (.t 21), (some (19, true)), 11, []⟩,
    ⟨(some 23), .fieldAddr 0 (.t 22), (some (19, true)), 12, []⟩,
    ⟨(some 24), .load none (.t 23), (some (19, true)), 13, []⟩,
    ⟨(some 25), .move (.t 4), (some (19, true)), 14, []⟩,
    ⟨(some 26), .bin .sub (.t 25) (.c (.s (.int .i64 1))), (some (19, true)), 15, []⟩,
    ⟨(some 27), .indexSl 2 (.t 24) (.t 26), (some (19, true)), 16, []⟩,
    ⟨(some 28), .fieldAddr 1 (.t 27), (some (19, true)), 17, []⟩,
    ⟨(some 29), .load none (.t 28), (some (19, true)), 18, []⟩,
    ⟨(some 30), .fieldAddr 1 (.t 3), (some (19, true)), 19, []⟩,
    ⟨(some 31), .load none (.t 30), (some (19, true)), 20, []⟩,
    ⟨(some 32), .bin .gtr (.t 29) (.t 31), (some (19, true)), 21, []⟩,
    ⟨(some 33), .pick (.t 19) (.t 32) (.c (.s (.bool false))), none, 22, []⟩]) (RC.cond (.t 33) (RC.skip) (RC.exit 0))) (RC.block 1 (RC.region 3 [
    ⟨(some 34), .move (.t 4), none, 0, []⟩,
    ⟨(some 35), .bin .sub (.t 34) (.c (.s (.int .i64 1))), none, 1, []⟩,
    ⟨(some 4), .move (.t 35), none, 2, []⟩]))
def order_Queue_put_s1 : RC :=
  RC.region 14 [
    ⟨(some 36), .move (.t 0), none, 0, []⟩,
    ⟨(some 37), .move (.t 0), none, 1, []⟩,
    ⟨(some 38), .nilCheck (.t 37), none, 2, []⟩,
    ⟨(some 39), .fieldAddr 0 (.t 38), none, 3, []⟩,
    ⟨(some 40), .fieldAddr 0 (.t 39), none, 4, []⟩,
    ⟨(some 41), .load none (.t 40), none, 5, []⟩,
    ⟨(some 42), .move (.t 4), none, 6, []⟩,
    ⟨(some 43), .load (some 2) (.t 3), none, 7, []⟩,
    ⟨(some 44), .buildSlice 2 1 [.int .i64 0, .int .i64 0] [(0, 2, (.t 43))], none, 8, []⟩,
    ⟨(some 45), .call F.slices_Insert__order_Item_order_Item [(.t 41), (.t 42), (.t 44)], none, 9, []⟩,
    ⟨(some 46), .nilCheck (.t 36), none, 10, []⟩,
    ⟨(some 47), .fieldAddr 0 (.t 46), none, 11, []⟩,
    ⟨(some 48), .fieldAddr 0 (.t 47), none, 12, []⟩,
    ⟨none, .store 1 (.t 48) (.t 45), none, 13, []⟩]
def order_Queue_put : RFunc := RFunc.mk 49 [] (
  RC.seq (RC.region 1 [
    ⟨(some 3), .box (.t 1), none, 0, []⟩]) (RC.seq (RC.region 7 [
    ⟨(some 5), .move (.t 0), none, 0, []⟩,
    ⟨(some 6), .nilCheck (.t 5), none, 1, []⟩,
    ⟨(some 7), .fieldAddr 0 (.t 6), none, 2, []⟩,
    ⟨(some 8), .fieldAddr 0 (.t 7), none, 3, []⟩,
    ⟨(some 9), .load none (.t 8), none, 4, []⟩,
    ⟨(some 10), .len (.t 9), none, 5, []⟩,
    ⟨(some 4), .move (.t 10), none, 6, []⟩]) (RC.seq (RC.block 0 (RC.loop R.order_Queue_put_l0)) R.order_Queue_put_s1)))
theorem order_Queue_put_ok : chkFunc Go.Proofs.Tryz.prog [0] Go.Proofs.Tryz.f191 order_Queue_put = true := by kernel_rfl
def mtx_All_leave_1 : RFunc := RFunc.mk 7 [.tmp 3] (
  RC.seq (RC.region 1 [
    ⟨(some 3), .move (.c (.s (.bool false))), none, 0, []⟩]) (RC.seq (RC.region 4 [
    ⟨(some 4), .move (.t 0), none, 0, []⟩,
    ⟨(some 5), .load none (.t 1), none, 1, []⟩,
    ⟨(some 6), .bin .eql (.t 4) (.t 5), none, 2, []⟩,
    ⟨(some 3), .move (.t 6), none, 3, []⟩]) (RC.ret)))
theorem mtx_All_leave_1_ok : chkFunc Go.Proofs.Tryz.prog [0] Go.Proofs.Tryz.f192 mtx_All_leave_1 = true := by kernel_rfl
def slices_Contains__int_int : RFunc := RFunc.mk 9 [.tmp 4] (
  RC.seq (RC.region 1 [
    ⟨(some 4), .move (.c (.s (.bool false))), none, 0, []⟩]) (RC.seq (RC.region 5 [
    ⟨(some 5), .move (.t 0), none, 0, []⟩,
    ⟨(some 6), .move (.t 1), none, 1, []⟩,
    ⟨(some 7), .call F.slices_Index__int_int [(.t 5), (.t 6)], none, 2, []⟩,
    ⟨(some 8), .bin .geq (.t 7) (.c (.s (.int .i64 0))), none, 3, []⟩,
    ⟨(some 4), .move (.t 8), none, 4, []⟩]) (RC.ret)))
theorem slices_Contains__int_int_ok : chkFunc Go.Proofs.Tryz.prog [0] Go.Proofs.Tryz.f193 slices_Contains__int_int = true := by kernel_rfl
def ready_task : RFunc := RFunc.mk 9 [.tmp 2] (
  RC.seq (RC.region 1 [
    ⟨(some 2), .move (.c (.s (.bool false))), none, 0, []⟩]) (RC.seq (RC.region 7 [
    ⟨(some 3), .move (.t 0), none, 0, []⟩,
    ⟨(some 4), .bin .geq (.t 3) (.c (.s (.int .i64 1))), none, 1, []⟩,
    ⟨(some 5), .move (.t 4), none, 2, []⟩,
    ⟨(some 6), .move (.t 0), (some (5, true)), 3, []⟩,
    ⟨(some 7), .bin .leq (.t 6) (.c (.s (.int .i64 16))), (some (5, true)), 4, []⟩,
    ⟨(some 8), .pick (.t 5) (.t 7) (.c (.s (.bool false))), none, 5, []⟩,
    ⟨(some 2), .move (.t 8), none, 6, []⟩]) (RC.ret)))
theorem ready_task_ok : chkFunc Go.Proofs.Tryz.prog [0] Go.Proofs.Tryz.f194 ready_task = true := by kernel_rfl
def bits_Map_After_s0 : RC :=
  RC.seq (RC.region 2 [
    ⟨(some 35), .move (.t 7), none, 0, []⟩,
    ⟨(some 36), .bin .neq (.t 35) (.c (.s (.int .u64 0))), none, 1, []⟩]) (RC.cond (.t 36) (RC.seq (RC.region 8 [
    ⟨(some 37), .move (.t 6), none, 0, []⟩,
    ⟨(some 38), .bin .mul (.t 37) (.c (.s (.int .i64 64))), none, 1, []⟩,
    ⟨(some 39), .move (.t 7), none, 2, []⟩,
    ⟨(some 40), .call F.math_bits_TrailingZeros64 [(.t 39)], none, 3, []⟩,
    ⟨(some 41), .bin .add (.t 38) (.t 40), none, 4, []⟩,
    ⟨(some 42), .bin .add (.t 41) (.c (.s (.int .i64 1))), none, 5, []⟩,
    ⟨(some 4), .move (.t 42), none, 6, []⟩,
    ⟨(some 5), .move (.c (.s (.bool true))), none, 7, []⟩]) (RC.ret)) (RC.skip))
def bits_Map_After_s1 : RC :=
  RC.region 3 [
    ⟨(some 16), .move (.t 6), none, 0, []⟩,
    ⟨(some 17), .bin .add (.t 16) (.c (.s (.int .i64 1))), none, 1, []⟩,
    ⟨(some 6), .move (.t 17), none, 2, []⟩]
def bits_Map_After_l2 : RC :=
  RC.seq (RC.seq (RC.region 2 [
    ⟨(some 14), .move (.t 6), none, 0, []⟩,
    ⟨(some 15), .bin .lss (.t 14) (.c (.s (.int .i64 4))), none, 1, []⟩]) (RC.cond (.t 15) (RC.skip) (RC.exit 0))) (RC.seq (RC.block 1 (RC.seq (RC.region 7 [
    ⟨(some 18), .move (.t 0), none, 0, []⟩,
    ⟨(some 19), .move (.t 6), none, 1, []⟩,
    ⟨(some 20), .nilCheck (.t 18), none, 2, []⟩,
    ⟨(some 21), .fieldAddr 0 (.t 20), none, 3, []⟩,
    ⟨(some 22), .indexArr 4 1 (.t 21) (.t 19), none, 4, []⟩,
    ⟨(some 23), .load none (.t 22), none, 5, []⟩,
    ⟨(some 7), .move (.t 23), none, 6, []⟩]) (RC.seq (RC.seq (RC.region 4 [
    ⟨(some 24), .move (.t 6), none, 0, []⟩,
    ⟨(some 25), .move (.t 1), none, 1, []⟩,
    ⟨(some 26), .bin .quo (.t 25) (.c (.s (.int .i64 64))), none, 2, []⟩,
    ⟨(some 27), .bin .eql (.t 24) (.t 26), none, 3, []⟩]) (RC.cond (.t 27) (RC.region 8 [
    ⟨(some 28), .move (.t 7), none, 0, []⟩,
    ⟨(some 29), .move (.t 1), none, 1, []⟩,
    ⟨(some 30), .bin .rem (.t 29) (.c (.s (.int .i64 64))), none, 2, []⟩,
    ⟨(some 31), .bin .shr (.t 28) (.t 30), none, 3, []⟩,
    ⟨(some 32), .move (.t 1), none, 4, []⟩,
    ⟨(some 33), .bin .rem (.t 32) (.c (.s (.int .i64 64))), none, 5, []⟩,
    ⟨(some 34), .bin .shl (.t 31) (.t 33), none, 6, []⟩,
    ⟨(some 7), .move (.t 34), none, 7, []⟩]) (RC.skip))) R.bits_Map_After_s0))) R.bits_Map_After_s1)
def bits_Map_After_s3 : RC :=
  RC.seq (RC.region 2 [
    ⟨(some 4), .move (.c (.s (.int .i64 0))), none, 0, []⟩,
    ⟨(some 5), .move (.c (.s (.bool false))), none, 1, []⟩]) (RC.ret)
def bits_Map_After : RFunc := RFunc.mk 43 [.tmp 4, .tmp 5] (
  RC.seq (RC.region 2 [
    ⟨(some 4), .move (.c (.s (.int .i64 0))), none, 0, []⟩,
    ⟨(some 5), .move (.c (.s (.bool false))), none, 1, []⟩]) (RC.seq (RC.region 3 [
    ⟨(some 8), .move (.t 1), none, 0, []⟩,
    ⟨(some 9), .minmax true (.t 8) (.c (.s (.int .i64 0))), none, 1, []⟩,
    ⟨(some 1), .move (.t 9), none, 2, []⟩]) (RC.seq (RC.seq (RC.region 2 [
    ⟨(some 10), .move (.t 1), none, 0, []⟩,
    ⟨(some 11), .bin .geq (.t 10) (.c (.s (.int .i64 256))), none, 1, []⟩]) (RC.cond (.t 11) (RC.seq (RC.region 2 [
    ⟨(some 4), .move (.c (.s (.int .i64 0))), none, 0, []⟩,
    ⟨(some 5), .move (.c (.s (.bool false))), none, 1, []⟩]) (RC.ret)) (RC.skip))) (RC.seq (RC.seq (RC.region 3 [
    ⟨(some 12), .move (.t 1), none, 0, []⟩,
    ⟨(some 13), .bin .quo (.t 12) (.c (.s (.int .i64 64))), none, 1, []⟩,
    ⟨(some 6), .move (.t 13), none, 2, []⟩]) (RC.block 0 (RC.loop R.bits_Map_After_l2))) R.bits_Map_After_s3))))
theorem bits_Map_After_ok : chkFunc Go.Proofs.Tryz.prog [0] Go.Proofs.Tryz.f195 bits_Map_After = true := by kernel_rfl
def heap_Timers_Cancel : RFunc := RFunc.mk 16 [.tmp 4] (
  RC.seq (RC.region 1 [
    ⟨(some 4), .move (.c (.s (.bool false))), none, 0, []⟩]) (RC.seq (RC.region 4 [
    ⟨(some 6), .move (.t 0), none, 0, []⟩,
    ⟨(some 7), .move (.t 1), none, 1, []⟩,
    ⟨(some 8), .call F.heap_Timers_find [(.t 6), (.t 7)], none, 2, []⟩,
    ⟨(some 5), .move (.t 8), none, 3, []⟩]) (RC.seq (RC.seq (RC.region 2 [
    ⟨(some 9), .move (.t 5), none, 0, []⟩,
    ⟨(some 10), .bin .geq (.t 9) (.c (.s (.int .i64 0))), none, 1, []⟩]) (RC.cond (.t 10) (RC.region 3 [
    ⟨(some 11), .move (.t 0), none, 0, []⟩,
    ⟨(some 12), .move (.t 5), none, 1, []⟩,
    ⟨(some 13), .call F.heap_Timers_remove [(.t 11), (.t 12)], none, 2, []⟩]) (RC.skip))) (RC.seq (RC.region 3 [
    ⟨(some 14), .move (.t 5), none, 0, []⟩,
    ⟨(some 15), .bin .geq (.t 14) (.c (.s (.int .i64 0))), none, 1, []⟩,
    ⟨(some 4), .move (.t 15), none, 2, []⟩]) (RC.ret)))))
theorem heap_Timers_Cancel_ok : chkFunc Go.Proofs.Tryz.prog [0] Go.Proofs.Tryz.f196 heap_Timers_Cancel = true := by kernel_rfl
def slices_Index__int_int_l0 : RC :=
  RC.seq (RC.region 1 [
    ⟨(some 9), .bin .lss (.t 8) (.t 7), none, 0, []⟩]) (RC.seq (RC.cond (.t 9) (RC.skip) (RC.exit 0)) (RC.seq (RC.block 1 (RC.seq (RC.region 2 [
    ⟨(some 10), .move (.t 8), none, 0, []⟩,
    ⟨(some 5), .move (.t 10), none, 1, []⟩]) (RC.seq (RC.region 6 [
    ⟨(some 11), .move (.t 1), none, 0, []⟩,
    ⟨(some 12), .move (.t 0), none, 1, []⟩,
    ⟨(some 13), .move (.t 5), none, 2, []⟩,
    ⟨(some 14), .indexSl 1 (.t 12) (.t 13), none, 3, []⟩,
    ⟨(some 15), .load none (.t 14), none, 4, []⟩,
    ⟨(some 16), .bin .eql (.t 11) (.t 15), none, 5, []⟩]) (RC.cond (.t 16) (RC.seq (RC.region 2 [
    ⟨(some 17), .move (.t 5), none, 0, []⟩,
    ⟨(some 4), .move (.t 17), none, 1, []⟩]) (RC.ret)) (RC.skip))))) (RC.region 2 [
    ⟨(some 18), .bin .add (.t 8) (.c (.s (.int .i64 1))), none, 0, []⟩,
    ⟨(some 8), .move (.t 18), none, 1, []⟩])))
def slices_Index__int_int_s1 : RC :=
  RC.seq (RC.region 1 [
    ⟨(some 4), .move (.c (.s (.int .i64 (-1)))), none, 0, []⟩]) (RC.ret)
def slices_Index__int_int : RFunc := RFunc.mk 19 [.tmp 4] (
  RC.seq (RC.region 1 [
    ⟨(some 4), .move (.c (.s (.int .i64 0))), none, 0, []⟩]) (RC.seq (RC.seq (RC.region 3 [
    ⟨(some 6), .move (.t 0), none, 0, []⟩,
    ⟨(some 7), .len (.t 6), none, 1, []⟩,
    ⟨(some 8), .move (.c (.s (.int .i64 0))), none, 2, []⟩]) (RC.block 0 (RC.loop R.slices_Index__int_int_l0))) R.slices_Index__int_int_s1))
theorem slices_Index__int_int_ok : chkFunc Go.Proofs.Tryz.prog [0] Go.Proofs.Tryz.f197 slices_Index__int_int = true := by kernel_rfl
def bits_Map_Clear_l0 : RC :=
  RC.seq (RC.region 1 [
    ⟨(some 12), .bin .lss (.t 11) (.t 10), none, 0, []⟩]) (RC.seq (RC.cond (.t 12) (RC.skip) (RC.exit 0)) (RC.seq (RC.block 1 (RC.seq (RC.region 3 [
    ⟨(some 13), .indexSl 1 (.t 9) (.t 11), none, 0, []⟩,
    ⟨(some 14), .load none (.t 13), none, 1, []⟩,
    ⟨(some 5), .move (.t 14), none, 2, []⟩]) (RC.seq (RC.region 9 [
    ⟨(some 16), .move (.t 5), none, 0, []⟩,
    ⟨(some 17), .call F.bits_place [(.t 16)], none, 1, []⟩,
    ⟨(some 15), .move (.t 17), none, 2, []⟩,
    ⟨(some 18), .extract 0 (.t 15), none, 3, []⟩,
    ⟨(some 19), .extract 1 (.t 15), none, 4, []⟩,
    ⟨(some 20), .extract 2 (.t 15), none, 5, []⟩,
    ⟨(some 6), .move (.t 18), none, 6, []⟩,
    ⟨(some 7), .move (.t 19), none, 7, []⟩,
    ⟨(some 8), .move (.t 20), none, 8, []⟩]) (RC.seq (RC.region 1 [
    ⟨(some 21), .move (.t 8), none, 0, []⟩]) (RC.cond (.t 21) (RC.region 12 [
    ⟨(some 22), .move (.t 0), none, 0, []⟩,
    ⟨(some 23), .move (.t 6), none, 1, []⟩,
    ⟨(some 24), .nilCheck (.t 22), none, 2, []⟩,
    ⟨(some 25), .fieldAddr 0 (.t 24), none, 3, []⟩,
    ⟨(some 26), .indexArr 4 1 (.t 25) (.t 23), none, 4, []⟩,
    ⟨(some 27), .load none (.t 26), none, 5, []⟩,
    ⟨(some 28), .move (.t 7), none, 6, []⟩,
    ⟨(some 29), .bin .andNot (.t 27) (.t 28), none, 7, []⟩,
    ⟨(some 30), .nilCheck (.t 22), none, 8, []⟩,
    ⟨(some 31), .fieldAddr 0 (.t 30), none, 9, []⟩,
    ⟨(some 32), .indexArr 4 1 (.t 31) (.t 23), none, 10, []⟩,
    ⟨none, .store 1 (.t 32) (.t 29), none, 11, []⟩]) (RC.skip)))))) (RC.region 2 [
    ⟨(some 33), .bin .add (.t 11) (.c (.s (.int .i64 1))), none, 0, []⟩,
    ⟨(some 11), .move (.t 33), none, 1, []⟩])))
def bits_Map_Clear : RFunc := RFunc.mk 34 [] (
  RC.seq (RC.region 3 [
    ⟨(some 9), .move (.t 1), none, 0, []⟩,
    ⟨(some 10), .len (.t 9), none, 1, []⟩,
    ⟨(some 11), .move (.c (.s (.int .i64 0))), none, 2, []⟩]) (RC.block 0 (RC.loop R.bits_Map_Clear_l0)))
theorem bits_Map_Clear_ok : chkFunc Go.Proofs.Tryz.prog [0] Go.Proofs.Tryz.f198 bits_Map_Clear = true := by kernel_rfl
def mtx_All_Held_l0 : RC :=
  RC.seq (RC.seq (RC.region 11 [
    ⟨(some 7), .move (.t 1), none, 0, []⟩,
    ⟨(some 8), .call F.mtx_is [(.t 7)], none, 1, []⟩,
    ⟨(some 9), .move (.t 8), none, 2, []⟩,
    ⟨(some 10), .move (.t 6), (some (9, true)), 3, []⟩,
    ⟨(some 11), .move (.t 0), (some (9, true)), 4, []⟩,
    ⟨(some 12), .nilCheck (.t 11), (some (9, true)), 5, []⟩,
    ⟨(some 13), .fieldAddr 0 (.t 12), (some (9, true)), 6, []⟩,
    ⟨(some 14), .load none (.t 13), (some (9, true)), 7, []⟩,
    ⟨(some 15), .len (.t 14), (some (9, true)), 8, []⟩,
    ⟨(some 16), .bin .lss (.t 10) (.t 15), (some (9, true)), 9, []⟩,
    ⟨(some 17), .pick (.t 9) (.t 16) (.c (.s (.bool false))), none, 10, []⟩]) (RC.cond (.t 17) (RC.skip) (RC.exit 0))) (RC.seq (RC.block 1 (RC.seq (RC.region 10 [
    ⟨(some 20), .move (.t 0), none, 0, []⟩,
    ⟨(some 21), .nilCheck (.t 20), none, 1, []⟩,
    ⟨(some 22), .fieldAddr 0 (.t 21), none, 2, []⟩,
    ⟨(some 23), .load none (.t 22), none, 3, []⟩,
    ⟨(some 24), .move (.t 6), none, 4, []⟩,
    ⟨(some 25), .indexSl 4 (.t 23) (.t 24), none, 5, []⟩,
    ⟨(some 26), .fieldAddr 2 (.t 25), none, 6, []⟩,
    ⟨(some 27), .load none (.t 26), none, 7, []⟩,
    ⟨(some 28), .move (.t 1), none, 8, []⟩,
    ⟨(some 29), .bin .eql (.t 27) (.t 28), none, 9, []⟩]) (RC.cond (.t 29) (RC.region 5 [
    ⟨(some 30), .move (.t 5), none, 0, []⟩,
    ⟨(some 31), .move (.t 6), none, 1, []⟩,
    ⟨(some 32), .buildSlice 1 1 [.int .i64 0] [(0, 1, (.t 31))], none, 2, []⟩,
    ⟨(some 33), .append 1 8 (.t 30) (.t 32), none, 3, []⟩,
    ⟨(some 5), .move (.t 33), none, 4, []⟩]) (RC.skip)))) (RC.region 3 [
    ⟨(some 18), .move (.t 6), none, 0, []⟩,
    ⟨(some 19), .bin .add (.t 18) (.c (.s (.int .i64 1))), none, 1, []⟩,
    ⟨(some 6), .move (.t 19), none, 2, []⟩]))
def mtx_All_Held_s1 : RC :=
  RC.seq (RC.region 3 [
    ⟨(some 34), .move (.t 5), none, 0, []⟩,
    ⟨(some 35), .call F.slices_Clip__int_int [(.t 34)], none, 1, []⟩,
    ⟨(some 4), .move (.t 35), none, 2, []⟩]) (RC.ret)
def mtx_All_Held : RFunc := RFunc.mk 36 [.tmp 4] (
  RC.seq (RC.region 1 [
    ⟨(some 4), .move (.c (.s (.slice none 0 0 1))), none, 0, []⟩]) (RC.seq (RC.region 1 [
    ⟨(some 5), .move (.c (.s (.slice none 0 0 1))), none, 0, []⟩]) (RC.seq (RC.seq (RC.region 1 [
    ⟨(some 6), .move (.c (.s (.int .i64 1))), none, 0, []⟩]) (RC.block 0 (RC.loop R.mtx_All_Held_l0))) R.mtx_All_Held_s1)))
theorem mtx_All_Held_ok : chkFunc Go.Proofs.Tryz.prog [0] Go.Proofs.Tryz.f199 mtx_All_Held = true := by kernel_rfl
def slices_Clip__int_int : RFunc := RFunc.mk 9 [.tmp 2] (
  RC.seq (RC.region 1 [
    ⟨(some 2), .move (.c (.s (.slice none 0 0 1))), none, 0, []⟩]) (RC.seq (RC.region 7 [
    ⟨(some 3), .move (.t 0), none, 0, []⟩,
    ⟨(some 4), .move (.t 0), none, 1, []⟩,
    ⟨(some 5), .len (.t 4), none, 2, []⟩,
    ⟨(some 6), .move (.t 0), none, 3, []⟩,
    ⟨(some 7), .len (.t 6), none, 4, []⟩,
    ⟨(some 8), .slSl 1 (.t 3) none (some (.t 5)) (some (.t 7)), none, 5, []⟩,
    ⟨(some 2), .move (.t 8), none, 6, []⟩]) (RC.ret)))
theorem slices_Clip__int_int_ok : chkFunc Go.Proofs.Tryz.prog [0] Go.Proofs.Tryz.f200 slices_Clip__int_int = true := by kernel_rfl
def tcb_Task_end : RFunc := RFunc.mk 35 [.tmp 2] (
  RC.seq (RC.region 1 [
    ⟨(some 2), .move (.c (.s (.bool false))), none, 0, []⟩]) (RC.seq (RC.region 18 [
    ⟨(some 3), .move (.t 0), none, 0, []⟩,
    ⟨(some 4), .move (.t 0), none, 1, []⟩,
    ⟨(some 5), .move (.t 0), none, 2, []⟩,
    ⟨(some 6), .move (.t 0), none, 3, []⟩,
    ⟨(some 7), .nilCheck (.t 3), none, 4, []⟩,
    ⟨(some 8), .fieldAddr 3 (.t 7), none, 5, []⟩,
    ⟨none, .store 1 (.t 8) (.c (.s (.int .i64 16))), none, 6, []⟩,
    ⟨(some 9), .nilCheck (.t 4), none, 7, []⟩,
    ⟨(some 10), .fieldAddr 4 (.t 9), none, 8, []⟩,
    ⟨none, .store 1 (.t 10) (.c (.s (.bool false))), none, 9, []⟩,
    ⟨(some 11), .nilCheck (.t 5), none, 10, []⟩,
    ⟨(some 12), .fieldAddr 0 (.t 11), none, 11, []⟩,
    ⟨(some 13), .fieldAddr 1 (.t 12), none, 12, []⟩,
    ⟨none, .store 1 (.t 13) (.c (.s (.int .i64 0))), none, 13, []⟩,
    ⟨(some 14), .nilCheck (.t 6), none, 14, []⟩,
    ⟨(some 15), .fieldAddr 0 (.t 14), none, 15, []⟩,
    ⟨(some 16), .fieldAddr 2 (.t 15), none, 16, []⟩,
    ⟨none, .store 1 (.t 16) (.c (.s (.int .i64 0))), none, 17, []⟩]) (RC.seq (RC.seq (RC.region 6 [
    ⟨(some 17), .move (.t 0), none, 0, []⟩,
    ⟨(some 18), .nilCheck (.t 17), none, 1, []⟩,
    ⟨(some 19), .fieldAddr 0 (.t 18), none, 2, []⟩,
    ⟨(some 20), .fieldAddr 0 (.t 19), none, 3, []⟩,
    ⟨(some 21), .load none (.t 20), none, 4, []⟩,
    ⟨(some 22), .bin .eql (.t 21) (.c (.s (.int .i64 0))), none, 5, []⟩]) (RC.cond (.t 22) (RC.seq (RC.region 1 [
    ⟨(some 2), .move (.c (.s (.bool false))), none, 0, []⟩]) (RC.ret)) (RC.skip))) (RC.seq (RC.region 10 [
    ⟨(some 23), .move (.t 0), none, 0, []⟩,
    ⟨(some 24), .nilCheck (.t 23), none, 1, []⟩,
    ⟨(some 25), .fieldAddr 0 (.t 24), none, 2, []⟩,
    ⟨(some 26), .fieldAddr 0 (.t 25), none, 3, []⟩,
    ⟨(some 27), .load none (.t 26), none, 4, []⟩,
    ⟨(some 28), .bin .sub (.t 27) (.c (.s (.int .i64 1))), none, 5, []⟩,
    ⟨(some 29), .nilCheck (.t 23), none, 6, []⟩,
    ⟨(some 30), .fieldAddr 0 (.t 29), none, 7, []⟩,
    ⟨(some 31), .fieldAddr 0 (.t 30), none, 8, []⟩,
    ⟨none, .store 1 (.t 31) (.t 28), none, 9, []⟩]) (RC.seq (RC.region 4 [
    ⟨(some 32), .move (.t 0), none, 0, []⟩,
    ⟨(some 33), .nilCheck (.t 32), none, 1, []⟩,
    ⟨(some 34), .fieldAddr 3 (.t 33), none, 2, []⟩,
    ⟨none, .store 1 (.t 34) (.c (.s (.int .i64 2))), none, 3, []⟩]) (RC.seq (RC.region 1 [
    ⟨(some 2), .move (.c (.s (.bool true))), none, 0, []⟩]) (RC.ret)))))))
theorem tcb_Task_end_ok : chkFunc Go.Proofs.Tryz.prog [0] Go.Proofs.Tryz.f201 tcb_Task_end = true := by kernel_rfl
def clock_Clock_After : RFunc := RFunc.mk 37 [.tmp 6, .tmp 7] (
  RC.seq (RC.region 2 [
    ⟨(some 6), .move (.c (.s (.int .i64 0))), none, 0, []⟩,
    ⟨(some 7), .move (.c (.s (.int .i64 0))), none, 1, []⟩]) (RC.seq (RC.region 7 [
    ⟨(some 11), .move (.t 1), none, 0, []⟩,
    ⟨(some 12), .call F.nums_Rel [(.t 11)], none, 1, []⟩,
    ⟨(some 10), .move (.t 12), none, 2, []⟩,
    ⟨(some 13), .extract 0 (.t 10), none, 3, []⟩,
    ⟨(some 14), .extract 1 (.t 10), none, 4, []⟩,
    ⟨(some 8), .move (.t 13), none, 5, []⟩,
    ⟨(some 9), .move (.t 14), none, 6, []⟩]) (RC.seq (RC.seq (RC.region 2 [
    ⟨(some 15), .move (.t 9), none, 0, []⟩,
    ⟨(some 16), .bin .neq (.t 15) (.c (.s (.int .i64 0))), none, 1, []⟩]) (RC.cond (.t 16) (RC.seq (RC.region 3 [
    ⟨(some 17), .move (.t 9), none, 0, []⟩,
    ⟨(some 6), .move (.c (.s (.int .i64 0))), none, 1, []⟩,
    ⟨(some 7), .move (.t 17), none, 2, []⟩]) (RC.ret)) (RC.skip))) (RC.seq (RC.region 21 [
    ⟨(some 18), .move (.t 0), none, 0, []⟩,
    ⟨(some 19), .nilCheck (.t 18), none, 1, []⟩,
    ⟨(some 20), .fieldAddr 0 (.t 19), none, 2, []⟩,
    ⟨(some 21), .load none (.t 20), none, 3, []⟩,
    ⟨(some 22), .move (.t 0), none, 4, []⟩,
    ⟨(some 23), .nilCheck (.t 22), none, 5, []⟩,
    ⟨(some 24), .fieldAddr 2 (.t 23), none, 6, []⟩,
    ⟨(some 25), .load none (.t 24), none, 7, []⟩,
    ⟨(some 26), .move (.t 8), none, 8, []⟩,
    ⟨(some 27), .bin .add (.t 25) (.t 26), none, 9, []⟩,
    ⟨(some 28), .move (.t 0), none, 10, []⟩,
    ⟨(some 29), .nilCheck (.t 28), none, 11, []⟩,
    ⟨(some 30), .fieldAddr 1 (.t 29), none, 12, []⟩,
    ⟨(some 31), .load none (.t 30), none, 13, []⟩,
    ⟨(some 32), .bin .add (.t 27) (.t 31), none, 14, []⟩,
    ⟨(some 33), .move (.t 2), none, 15, []⟩,
    ⟨(some 34), .call F.heap_Timers_Insert [(.t 21), (.t 32), (.t 33)], none, 16, []⟩,
    ⟨(some 35), .extract 0 (.t 34), none, 17, []⟩,
    ⟨(some 36), .extract 1 (.t 34), none, 18, []⟩,
    ⟨(some 6), .move (.t 35), none, 19, []⟩,
    ⟨(some 7), .move (.t 36), none, 20, []⟩]) (RC.ret)))))
theorem clock_Clock_After_ok : chkFunc Go.Proofs.Tryz.prog [0] Go.Proofs.Tryz.f202 clock_Clock_After = true := by kernel_rfl
def order_Line_First : RFunc := RFunc.mk 17 [.cell 2 (some 2), .tmp 3] (
  RC.seq (RC.region 2 [
    ⟨(some 2), .newc [.int .i64 0, .int .i64 0], none, 0, []⟩,
    ⟨(some 3), .move (.c (.s (.bool false))), none, 1, []⟩]) (RC.seq (RC.seq (RC.region 6 [
    ⟨(some 4), .move (.t 0), none, 0, []⟩,
    ⟨(some 5), .nilCheck (.t 4), none, 1, []⟩,
    ⟨(some 6), .fieldAddr 0 (.t 5), none, 2, []⟩,
    ⟨(some 7), .load none (.t 6), none, 3, []⟩,
    ⟨(some 8), .len (.t 7), none, 4, []⟩,
    ⟨(some 9), .bin .eql (.t 8) (.c (.s (.int .i64 0))), none, 5, []⟩]) (RC.cond (.t 9) (RC.seq (RC.region 3 [
    ⟨(some 10), .build [.int .i64 0, .int .i64 0] [], none, 0, []⟩,
    ⟨none, .store 2 (.t 2) (.t 10), none, 1, []⟩,
    ⟨(some 3), .move (.c (.s (.bool false))), none, 2, []⟩]) (RC.ret)) (RC.skip))) (RC.seq (RC.region 8 [
    ⟨(some 11), .move (.t 0), none, 0, []⟩,
    ⟨(some 12), .nilCheck (.t 11), none, 1, []⟩,
    ⟨(some 13), .fieldAddr 0 (.t 12), none, 2, []⟩,
    ⟨(some 14), .load none (.t 13), none, 3, []⟩,
    ⟨(some 15), .indexSl 2 (.t 14) (.c (.s (.int .i64 0))), none, 4, []⟩,
    ⟨(some 16), .load (some 2) (.t 15), none, 5, []⟩,
    ⟨none, .store 2 (.t 2) (.t 16), none, 6, []⟩,
    ⟨(some 3), .move (.c (.s (.bool true))), none, 7, []⟩]) (RC.ret))))
theorem order_Line_First_ok : chkFunc Go.Proofs.Tryz.prog [0] Go.Proofs.Tryz.f203 order_Line_First = true := by kernel_rfl
def slices_Clip__order_Item_order_Item : RFunc := RFunc.mk 9 [.tmp 2] (
  RC.seq (RC.region 1 [
    ⟨(some 2), .move (.c (.s (.slice none 0 0 1))), none, 0, []⟩]) (RC.seq (RC.region 7 [
    ⟨(some 3), .move (.t 0), none, 0, []⟩,
    ⟨(some 4), .move (.t 0), none, 1, []⟩,
    ⟨(some 5), .len (.t 4), none, 2, []⟩,
    ⟨(some 6), .move (.t 0), none, 3, []⟩,
    ⟨(some 7), .len (.t 6), none, 4, []⟩,
    ⟨(some 8), .slSl 2 (.t 3) none (some (.t 5)) (some (.t 7)), none, 5, []⟩,
    ⟨(some 2), .move (.t 8), none, 6, []⟩]) (RC.ret)))
theorem slices_Clip__order_Item_order_Item_ok : chkFunc Go.Proofs.Tryz.prog [0] Go.Proofs.Tryz.f204 slices_Clip__order_Item_order_Item = true := by kernel_rfl
def slices_Clone__order_Item_order_Item : RFunc := RFunc.mk 8 [.tmp 2] (
  RC.seq (RC.region 1 [
    ⟨(some 2), .move (.c (.s (.slice none 0 0 1))), none, 0, []⟩]) (RC.seq (RC.seq (RC.region 2 [
    ⟨(some 3), .move (.t 0), none, 0, []⟩,
    ⟨(some 4), .eqs .slice false (.t 3) (.c (.s (.slice none 0 0 1))), none, 1, []⟩]) (RC.cond (.t 4) (RC.seq (RC.region 1 [
    ⟨(some 2), .move (.c (.s (.slice none 0 0 1))), none, 0, []⟩]) (RC.ret)) (RC.skip))) (RC.seq (RC.region 4 [
    ⟨(some 5), .buildSlice 2 0 [] [], none, 0, []⟩,
    ⟨(some 6), .move (.t 0), none, 1, []⟩,
    ⟨(some 7), .append 2 16 (.t 5) (.t 6), none, 2, []⟩,
    ⟨(some 2), .move (.t 7), none, 3, []⟩]) (RC.ret))))
theorem slices_Clone__order_Item_order_Item_ok : chkFunc Go.Proofs.Tryz.prog [0] Go.Proofs.Tryz.f205 slices_Clone__order_Item_order_Item = true := by kernel_rfl
def cmp_Less_int : RFunc := RFunc.mk 17 [.tmp 4] (
  RC.seq (RC.region 1 [
    ⟨(some 4), .move (.c (.s (.bool false))), none, 0, []⟩]) (RC.seq (RC.region 13 [
    ⟨(some 5), .move (.t 0), none, 0, []⟩,
    ⟨(some 6), .call F.cmp_isNaN_int [(.t 5)], none, 1, []⟩,
    ⟨(some 7), .move (.t 6), none, 2, []⟩,
    ⟨(some 8), .move (.t 1), (some (7, true)), 3, []⟩,
    ⟨(some 9), .call F.cmp_isNaN_int [(.t 8)], (some (7, true)), 4, []⟩,
    ⟨(some 10), .un .not (.t 9), (some (7, true)), 5, []⟩,
    ⟨(some 11), .pick (.t 7) (.t 10) (.c (.s (.bool false))), none, 6, []⟩,
    ⟨(some 12), .move (.t 11), none, 7, []⟩,
    ⟨(some 13), .move (.t 0), (some (12, false)), 8, []⟩,
    ⟨(some 14), .move (.t 1), (some (12, false)), 9, []⟩,
    ⟨(some 15), .bin .lss (.t 13) (.t 14), (some (12, false)), 10, []⟩,
    ⟨(some 16), .pick (.t 12) (.c (.s (.bool true))) (.t 15), none, 11, []⟩,
    ⟨(some 4), .move (.t 16), none, 12, []⟩]) (RC.ret)))
theorem cmp_Less_int_ok : chkFunc Go.Proofs.Tryz.prog [0] Go.Proofs.Tryz.f206 cmp_Less_int = true := by kernel_rfl
def slices_isNaN_int : RFunc := RFunc.mk 6 [.tmp 2] (
  RC.seq (RC.region 1 [
    ⟨(some 2), .move (.c (.s (.bool false))), none, 0, []⟩]) (RC.seq (RC.region 4 [
    ⟨(some 3), .move (.t 0), none, 0, []⟩,
    ⟨(some 4), .move (.t 0), none, 1, []⟩,
    ⟨(some 5), .bin .neq (.t 3) (.t 4), none, 2, []⟩,
    ⟨(some 2), .move (.t 5), none, 3, []⟩]) (RC.ret)))
theorem slices_isNaN_int_ok : chkFunc Go.Proofs.Tryz.prog [0] Go.Proofs.Tryz.f207 slices_isNaN_int = true := by kernel_rfl
def slices_rotateRight_int : RFunc := RFunc.mk 10 [] (
  RC.region 6 [
    ⟨(some 4), .move (.t 0), none, 0, []⟩,
    ⟨(some 5), .move (.t 0), none, 1, []⟩,
    ⟨(some 6), .len (.t 5), none, 2, []⟩,
    ⟨(some 7), .move (.t 1), none, 3, []⟩,
    ⟨(some 8), .bin .sub (.t 6) (.t 7), none, 4, []⟩,
    ⟨(some 9), .call F.slices_rotateLeft_int [(.t 4), (.t 8)], none, 5, []⟩])
theorem slices_rotateRight_int_ok : chkFunc Go.Proofs.Tryz.prog [0] Go.Proofs.Tryz.f209 slices_rotateRight_int = true := by kernel_rfl
def heap_Timers_remove : RFunc := RFunc.mk 48 [] (
  RC.seq (RC.region 7 [
    ⟨(some 5), .move (.t 0), none, 0, []⟩,
    ⟨(some 6), .nilCheck (.t 5), none, 1, []⟩,
    ⟨(some 7), .fieldAddr 0 (.t 6), none, 2, []⟩,
    ⟨(some 8), .load none (.t 7), none, 3, []⟩,
    ⟨(some 9), .len (.t 8), none, 4, []⟩,
    ⟨(some 10), .bin .sub (.t 9) (.c (.s (.int .i64 1))), none, 5, []⟩,
    ⟨(some 4), .move (.t 10), none, 6, []⟩]) (RC.seq (RC.region 14 [
    ⟨(some 11), .move (.t 0), none, 0, []⟩,
    ⟨(some 12), .nilCheck (.t 11), none, 1, []⟩,
    ⟨(some 13), .fieldAddr 0 (.t 12), none, 2, []⟩,
    ⟨(some 14), .load none (.t 13), none, 3, []⟩,
    ⟨(some 15), .move (.t 1), none, 4, []⟩,
    ⟨(some 16), .move (.t 0), none, 5, []⟩,
    ⟨(some 17), .nilCheck (.t 16), none, 6, []⟩,
    ⟨(some 18), .fieldAddr 0 (.t 17), none, 7, []⟩,
    ⟨(some 19), .load none (.t 18), none, 8, []⟩,
    ⟨(some 20), .move (.t 4), none, 9, []⟩,
    ⟨(some 21), .indexSl 3 (.t 19) (.t 20), none, 10, []⟩,
    ⟨(some 22), .load (some 3) (.t 21), none, 11, []⟩,
    ⟨(some 23), .indexSl 3 (.t 14) (.t 15), none, 12, []⟩,
    ⟨none, .store 3 (.t 23) (.t 22), none, 13, []⟩]) (RC.seq (RC.region 10 [
    ⟨(some 24), .move (.t 0), none, 0, []⟩,
    ⟨(some 25), .move (.t 0), none, 1, []⟩,
    ⟨(some 26), .nilCheck (.t 25), none, 2, []⟩,
    ⟨(some 27), .fieldAddr 0 (.t 26), none, 3, []⟩,
    ⟨(some 28), .load none (.t 27), none, 4, []⟩,
    ⟨(some 29), .move (.t 4), none, 5, []⟩,
    ⟨(some 30), .slSl 3 (.t 28) none (some (.t 29)) none, none, 6, []⟩,
    ⟨(some 31), .nilCheck (.t 24), none, 7, []⟩,
    ⟨(some 32), .fieldAddr 0 (.t 31), none, 8, []⟩,
    ⟨none, .store 1 (.t 32) (.t 30), none, 9, []⟩]) (RC.seq (RC.region 3 [
    ⟨(some 33), .move (.t 1), none, 0, []⟩,
    ⟨(some 34), .move (.t 4), none, 1, []⟩,
    ⟨(some 35), .bin .lss (.t 33) (.t 34), none, 2, []⟩]) (RC.cond (.t 35) (RC.seq (RC.region 6 [
    ⟨(some 36), .move (.t 0), none, 0, []⟩,
    ⟨(some 37), .nilCheck (.t 36), none, 1, []⟩,
    ⟨(some 38), .fieldAddr 0 (.t 37), none, 2, []⟩,
    ⟨(some 39), .load none (.t 38), none, 3, []⟩,
    ⟨(some 40), .move (.t 1), none, 4, []⟩,
    ⟨(some 41), .call F.heap_row_up [(.t 39), (.t 40)], none, 5, []⟩]) (RC.region 6 [
    ⟨(some 42), .move (.t 0), none, 0, []⟩,
    ⟨(some 43), .nilCheck (.t 42), none, 1, []⟩,
    ⟨(some 44), .fieldAddr 0 (.t 43), none, 2, []⟩,
    ⟨(some 45), .load none (.t 44), none, 3, []⟩,
    ⟨(some 46), .move (.t 1), none, 4, []⟩,
    ⟨(some 47), .call F.heap_row_down [(.t 45), (.t 46)], none, 5, []⟩])) (RC.skip))))))
theorem heap_Timers_remove_ok : chkFunc Go.Proofs.Tryz.prog [0] Go.Proofs.Tryz.f210 heap_Timers_remove = true := by kernel_rfl
def slices_insertionSortCmpFunc_cyc_Fired_l0 : RC :=
  RC.seq (RC.seq (RC.region 17 [
    ⟨(some 18), .move (.t 9), none, 0, []⟩,
    ⟨(some 19), .move (.t 1), none, 1, []⟩,
    ⟨(some 20), .bin .gtr (.t 18) (.t 19), none, 2, []⟩,
    ⟨(some 21), .move (.t 20), none, 3, []⟩,
    ⟨(some 22), .move (.t 3), (some (21, true)), 4, []⟩,
    ⟨(some 23), .move (.t 0), (some (21, true)), 5, []⟩,
    ⟨(some 24), .move (.t 9), (some (21, true)), 6, []⟩,
    ⟨(some 25), .indexSl 3 (.t 23) (.t 24), (some (21, true)), 7, []⟩,
    ⟨(some 26), .load (some 3) (.t 25), (some (21, true)), 8, []⟩,
    ⟨(some 27), .move (.t 0), (some (21, true)), 9, []⟩,
    ⟨(some 28), .move (.t 9), (some (21, true)), 10, []⟩,
    ⟨(some 29), .bin .sub (.t 28) (.c (.s (.int .i64 1))), (some (21, true)), 11, []⟩,
    ⟨(some 30), .indexSl 3 (.t 27) (.t 29), (some (21, true)), 12, []⟩,
    ⟨(some 31), .load (some 3) (.t 30), (some (21, true)), 13, []⟩,
    ⟨(some 32), .callv (.t 22) [(.t 26), (.t 31)], (some (21, true)), 14, []⟩,
    ⟨(some 33), .bin .lss (.t 32) (.c (.s (.int .i64 0))), (some (21, true)), 15, []⟩,
    ⟨(some 34), .pick (.t 21) (.t 33) (.c (.s (.bool false))), none, 16, []⟩]) (RC.cond (.t 34) (RC.skip) (RC.exit 2))) (RC.seq (RC.block 3 (RC.region 18 [
    ⟨(some 37), .move (.t 0), none, 0, []⟩,
    ⟨(some 38), .move (.t 9), none, 1, []⟩,
    ⟨(some 39), .move (.t 0), none, 2, []⟩,
    ⟨(some 40), .move (.t 9), none, 3, []⟩,
    ⟨(some 41), .bin .sub (.t 40) (.c (.s (.int .i64 1))), none, 4, []⟩,
    ⟨(some 42), .move (.t 0), none, 5, []⟩,
    ⟨(some 43), .move (.t 9), none, 6, []⟩,
    ⟨(some 44), .bin .sub (.t 43) (.c (.s (.int .i64 1))), none, 7, []⟩,
    ⟨(some 45), .indexSl 3 (.t 42) (.t 44), none, 8, []⟩,
    ⟨(some 46), .load (some 3) (.t 45), none, 9, []⟩,
    ⟨(some 47), .move (.t 0), none, 10, []⟩,
    ⟨(some 48), .move (.t 9), none, 11, []⟩,
    ⟨(some 49), .indexSl 3 (.t 47) (.t 48), none, 12, []⟩,
    ⟨(some 50), .load (some 3) (.t 49), none, 13, []⟩,
    ⟨(some 51), .indexSl 3 (.t 37) (.t 38), none, 14, []⟩,
    ⟨none, .store 3 (.t 51) (.t 46), none, 15, []⟩,
    ⟨(some 52), .indexSl 3 (.t 39) (.t 41), none, 16, []⟩,
    ⟨none, .store 3 (.t 52) (.t 50), none, 17, []⟩])) (RC.region 3 [
    ⟨(some 35), .move (.t 9), none, 0, []⟩,
    ⟨(some 36), .bin .sub (.t 35) (.c (.s (.int .i64 1))), none, 1, []⟩,
    ⟨(some 9), .move (.t 36), none, 2, []⟩]))
def slices_insertionSortCmpFunc_cyc_Fired_s1 : RC :=
  RC.region 3 [
    ⟨(some 15), .move (.t 8), none, 0, []⟩,
    ⟨(some 16), .bin .add (.t 15) (.c (.s (.int .i64 1))), none, 1, []⟩,
    ⟨(some 8), .move (.t 16), none, 2, []⟩]
def slices_insertionSortCmpFunc_cyc_Fired_l2 : RC :=
  RC.seq (RC.seq (RC.region 3 [
    ⟨(some 12), .move (.t 8), none, 0, []⟩,
    ⟨(some 13), .move (.t 2), none, 1, []⟩,
    ⟨(some 14), .bin .lss (.t 12) (.t 13), none, 2, []⟩]) (RC.cond (.t 14) (RC.skip) (RC.exit 0))) (RC.seq (RC.block 1 (RC.seq (RC.region 2 [
    ⟨(some 17), .move (.t 8), none, 0, []⟩,
    ⟨(some 9), .move (.t 17), none, 1, []⟩]) (RC.block 2 (RC.loop R.slices_insertionSortCmpFunc_cyc_Fired_l0)))) R.slices_insertionSortCmpFunc_cyc_Fired_s1)
def slices_insertionSortCmpFunc_cyc_Fired : RFunc := RFunc.mk 53 [] (
  RC.seq (RC.region 3 [
    ⟨(some 10), .move (.t 1), none, 0, []⟩,
    ⟨(some 11), .bin .add (.t 10) (.c (.s (.int .i64 1))), none, 1, []⟩,
    ⟨(some 8), .move (.t 11), none, 2, []⟩]) (RC.block 0 (RC.loop R.slices_insertionSortCmpFunc_cyc_Fired_l2)))
theorem slices_insertionSortCmpFunc_cyc_Fired_ok : chkFunc Go.Proofs.Tryz.prog [0] Go.Proofs.Tryz.f211 slices_insertionSortCmpFunc_cyc_Fired = true := by kernel_rfl
def slices_symMergeCmpFunc_cyc_Fired_l0 : RC :=
  RC.seq (RC.seq (RC.region 3 [
    ⟨(some 31), .move (.t 10), none, 0, []⟩,
    ⟨(some 32), .move (.t 11), none, 1, []⟩,
    ⟨(some 33), .bin .lss (.t 31) (.t 32), none, 2, []⟩]) (RC.cond (.t 33) (RC.skip) (RC.exit 0))) (RC.block 1 (RC.seq (RC.region 7 [
    ⟨(some 34), .move (.t 10), none, 0, []⟩,
    ⟨(some 35), .move (.t 11), none, 1, []⟩,
    ⟨(some 36), .bin .add (.t 34) (.t 35), none, 2, []⟩,
    ⟨(some 37), .conv .u64 (.t 36), none, 3, []⟩,
    ⟨(some 38), .bin .shr (.t 37) (.c (.s (.int .u64 1))), none, 4, []⟩,
    ⟨(some 39), .conv .i64 (.t 38), none, 5, []⟩,
    ⟨(some 12), .move (.t 39), none, 6, []⟩]) (RC.seq (RC.region 11 [
    ⟨(some 40), .move (.t 4), none, 0, []⟩,
    ⟨(some 41), .move (.t 0), none, 1, []⟩,
    ⟨(some 42), .move (.t 12), none, 2, []⟩,
    ⟨(some 43), .indexSl 3 (.t 41) (.t 42), none, 3, []⟩,
    ⟨(some 44), .load (some 3) (.t 43), none, 4, []⟩,
    ⟨(some 45), .move (.t 0), none, 5, []⟩,
    ⟨(some 46), .move (.t 1), none, 6, []⟩,
    ⟨(some 47), .indexSl 3 (.t 45) (.t 46), none, 7, []⟩,
    ⟨(some 48), .load (some 3) (.t 47), none, 8, []⟩,
    ⟨(some 49), .callv (.t 40) [(.t 44), (.t 48)], none, 9, []⟩,
    ⟨(some 50), .bin .lss (.t 49) (.c (.s (.int .i64 0))), none, 10, []⟩]) (RC.cond (.t 50) (RC.region 3 [
    ⟨(some 51), .move (.t 12), none, 0, []⟩,
    ⟨(some 52), .bin .add (.t 51) (.c (.s (.int .i64 1))), none, 1, []⟩,
    ⟨(some 10), .move (.t 52), none, 2, []⟩]) (RC.region 2 [
    ⟨(some 53), .move (.t 12), none, 0, []⟩,
    ⟨(some 11), .move (.t 53), none, 1, []⟩])))))
def slices_symMergeCmpFunc_cyc_Fired_l1 : RC :=
  RC.seq (RC.seq (RC.region 4 [
    ⟨(some 55), .move (.t 13), none, 0, []⟩,
    ⟨(some 56), .move (.t 10), none, 1, []⟩,
    ⟨(some 57), .bin .sub (.t 56) (.c (.s (.int .i64 1))), none, 2, []⟩,
    ⟨(some 58), .bin .lss (.t 55) (.t 57), none, 3, []⟩]) (RC.cond (.t 58) (RC.skip) (RC.exit 2))) (RC.seq (RC.block 3 (RC.region 18 [
    ⟨(some 61), .move (.t 0), none, 0, []⟩,
    ⟨(some 62), .move (.t 13), none, 1, []⟩,
    ⟨(some 63), .move (.t 0), none, 2, []⟩,
    ⟨(some 64), .move (.t 13), none, 3, []⟩,
    ⟨(some 65), .bin .add (.t 64) (.c (.s (.int .i64 1))), none, 4, []⟩,
    ⟨(some 66), .move (.t 0), none, 5, []⟩,
    ⟨(some 67), .move (.t 13), none, 6, []⟩,
    ⟨(some 68), .bin .add (.t 67) (.c (.s (.int .i64 1))), none, 7, []⟩,
    ⟨(some 69), .indexSl 3 (.t 66) (.t 68), none, 8, []⟩,
    ⟨(some 70), .load (some 3) (.t 69), none, 9, []⟩,
    ⟨(some 71), .move (.t 0), none, 10, []⟩,
    ⟨(some 72), .move (.t 13), none, 11, []⟩,
    ⟨(some 73), .indexSl 3 (.t 71) (.t 72), none, 12, []⟩,
    ⟨(some 74), .load (some 3) (.t 73), none, 13, []⟩,
    ⟨(some 75), .indexSl 3 (.t 61) (.t 62), none, 14, []⟩,
    ⟨none, .store 3 (.t 75) (.t 70), none, 15, []⟩,
    ⟨(some 76), .indexSl 3 (.t 63) (.t 65), none, 16, []⟩,
    ⟨none, .store 3 (.t 76) (.t 74), none, 17, []⟩])) (RC.region 3 [
    ⟨(some 59), .move (.t 13), none, 0, []⟩,
    ⟨(some 60), .bin .add (.t 59) (.c (.s (.int .i64 1))), none, 1, []⟩,
    ⟨(some 13), .move (.t 60), none, 2, []⟩]))
def slices_symMergeCmpFunc_cyc_Fired_s2 : RC :=
  RC.ret
def slices_symMergeCmpFunc_cyc_Fired_s3 : RC :=
  RC.seq (RC.seq (RC.region 2 [
    ⟨(some 54), .move (.t 1), none, 0, []⟩,
    ⟨(some 13), .move (.t 54), none, 1, []⟩]) (RC.block 2 (RC.loop R.slices_symMergeCmpFunc_cyc_Fired_l1))) R.slices_symMergeCmpFunc_cyc_Fired_s2
def slices_symMergeCmpFunc_cyc_Fired_l4 : RC :=
  RC.seq (RC.seq (RC.region 3 [
    ⟨(some 83), .move (.t 14), none, 0, []⟩,
    ⟨(some 84), .move (.t 15), none, 1, []⟩,
    ⟨(some 85), .bin .lss (.t 83) (.t 84), none, 2, []⟩]) (RC.cond (.t 85) (RC.skip) (RC.exit 4))) (RC.block 5 (RC.seq (RC.region 7 [
    ⟨(some 86), .move (.t 14), none, 0, []⟩,
    ⟨(some 87), .move (.t 15), none, 1, []⟩,
    ⟨(some 88), .bin .add (.t 86) (.t 87), none, 2, []⟩,
    ⟨(some 89), .conv .u64 (.t 88), none, 3, []⟩,
    ⟨(some 90), .bin .shr (.t 89) (.c (.s (.int .u64 1))), none, 4, []⟩,
    ⟨(some 91), .conv .i64 (.t 90), none, 5, []⟩,
    ⟨(some 16), .move (.t 91), none, 6, []⟩]) (RC.seq (RC.region 12 [
    ⟨(some 92), .move (.t 4), none, 0, []⟩,
    ⟨(some 93), .move (.t 0), none, 1, []⟩,
    ⟨(some 94), .move (.t 2), none, 2, []⟩,
    ⟨(some 95), .indexSl 3 (.t 93) (.t 94), none, 3, []⟩,
    ⟨(some 96), .load (some 3) (.t 95), none, 4, []⟩,
    ⟨(some 97), .move (.t 0), none, 5, []⟩,
    ⟨(some 98), .move (.t 16), none, 6, []⟩,
    ⟨(some 99), .indexSl 3 (.t 97) (.t 98), none, 7, []⟩,
    ⟨(some 100), .load (some 3) (.t 99), none, 8, []⟩,
    ⟨(some 101), .callv (.t 92) [(.t 96), (.t 100)], none, 9, []⟩,
    ⟨(some 102), .bin .lss (.t 101) (.c (.s (.int .i64 0))), none, 10, []⟩,
    ⟨(some 103), .un .not (.t 102), none, 11, []⟩]) (RC.cond (.t 103) (RC.region 3 [
    ⟨(some 104), .move (.t 16), none, 0, []⟩,
    ⟨(some 105), .bin .add (.t 104) (.c (.s (.int .i64 1))), none, 1, []⟩,
    ⟨(some 14), .move (.t 105), none, 2, []⟩]) (RC.region 2 [
    ⟨(some 106), .move (.t 16), none, 0, []⟩,
    ⟨(some 15), .move (.t 106), none, 1, []⟩])))))
def slices_symMergeCmpFunc_cyc_Fired_l5 : RC :=
  RC.seq (RC.seq (RC.region 3 [
    ⟨(some 108), .move (.t 17), none, 0, []⟩,
    ⟨(some 109), .move (.t 14), none, 1, []⟩,
    ⟨(some 110), .bin .gtr (.t 108) (.t 109), none, 2, []⟩]) (RC.cond (.t 110) (RC.skip) (RC.exit 6))) (RC.seq (RC.block 7 (RC.region 18 [
    ⟨(some 113), .move (.t 0), none, 0, []⟩,
    ⟨(some 114), .move (.t 17), none, 1, []⟩,
    ⟨(some 115), .move (.t 0), none, 2, []⟩,
    ⟨(some 116), .move (.t 17), none, 3, []⟩,
    ⟨(some 117), .bin .sub (.t 116) (.c (.s (.int .i64 1))), none, 4, []⟩,
    ⟨(some 118), .move (.t 0), none, 5, []⟩,
    ⟨(some 119), .move (.t 17), none, 6, []⟩,
    ⟨(some 120), .bin .sub (.t 119) (.c (.s (.int .i64 1))), none, 7, []⟩,
    ⟨(some 121), .indexSl 3 (.t 118) (.t 120), none, 8, []⟩,
    ⟨(some 122), .load (some 3) (.t 121), none, 9, []⟩,
    ⟨(some 123), .move (.t 0), none, 10, []⟩,
    ⟨(some 124), .move (.t 17), none, 11, []⟩,
    ⟨(some 125), .indexSl 3 (.t 123) (.t 124), none, 12, []⟩,
    ⟨(some 126), .load (some 3) (.t 125), none, 13, []⟩,
    ⟨(some 127), .indexSl 3 (.t 113) (.t 114), none, 14, []⟩,
    ⟨none, .store 3 (.t 127) (.t 122), none, 15, []⟩,
    ⟨(some 128), .indexSl 3 (.t 115) (.t 117), none, 16, []⟩,
    ⟨none, .store 3 (.t 128) (.t 126), none, 17, []⟩])) (RC.region 3 [
    ⟨(some 111), .move (.t 17), none, 0, []⟩,
    ⟨(some 112), .bin .sub (.t 111) (.c (.s (.int .i64 1))), none, 1, []⟩,
    ⟨(some 17), .move (.t 112), none, 2, []⟩]))
def slices_symMergeCmpFunc_cyc_Fired_s6 : RC :=
  RC.ret
def slices_symMergeCmpFunc_cyc_Fired_s7 : RC :=
  RC.seq (RC.seq (RC.region 2 [
    ⟨(some 107), .move (.t 2), none, 0, []⟩,
    ⟨(some 17), .move (.t 107), none, 1, []⟩]) (RC.block 6 (RC.loop R.slices_symMergeCmpFunc_cyc_Fired_l5))) R.slices_symMergeCmpFunc_cyc_Fired_s6
def slices_symMergeCmpFunc_cyc_Fired_l8 : RC :=
  RC.seq (RC.seq (RC.region 3 [
    ⟨(some 149), .move (.t 20), none, 0, []⟩,
    ⟨(some 150), .move (.t 21), none, 1, []⟩,
    ⟨(some 151), .bin .lss (.t 149) (.t 150), none, 2, []⟩]) (RC.cond (.t 151) (RC.skip) (RC.exit 8))) (RC.block 9 (RC.seq (RC.region 7 [
    ⟨(some 152), .move (.t 20), none, 0, []⟩,
    ⟨(some 153), .move (.t 21), none, 1, []⟩,
    ⟨(some 154), .bin .add (.t 152) (.t 153), none, 2, []⟩,
    ⟨(some 155), .conv .u64 (.t 154), none, 3, []⟩,
    ⟨(some 156), .bin .shr (.t 155) (.c (.s (.int .u64 1))), none, 4, []⟩,
    ⟨(some 157), .conv .i64 (.t 156), none, 5, []⟩,
    ⟨(some 23), .move (.t 157), none, 6, []⟩]) (RC.seq (RC.region 14 [
    ⟨(some 158), .move (.t 4), none, 0, []⟩,
    ⟨(some 159), .move (.t 0), none, 1, []⟩,
    ⟨(some 160), .move (.t 22), none, 2, []⟩,
    ⟨(some 161), .move (.t 23), none, 3, []⟩,
    ⟨(some 162), .bin .sub (.t 160) (.t 161), none, 4, []⟩,
    ⟨(some 163), .indexSl 3 (.t 159) (.t 162), none, 5, []⟩,
    ⟨(some 164), .load (some 3) (.t 163), none, 6, []⟩,
    ⟨(some 165), .move (.t 0), none, 7, []⟩,
    ⟨(some 166), .move (.t 23), none, 8, []⟩,
    ⟨(some 167), .indexSl 3 (.t 165) (.t 166), none, 9, []⟩,
    ⟨(some 168), .load (some 3) (.t 167), none, 10, []⟩,
    ⟨(some 169), .callv (.t 158) [(.t 164), (.t 168)], none, 11, []⟩,
    ⟨(some 170), .bin .lss (.t 169) (.c (.s (.int .i64 0))), none, 12, []⟩,
    ⟨(some 171), .un .not (.t 170), none, 13, []⟩]) (RC.cond (.t 171) (RC.region 3 [
    ⟨(some 172), .move (.t 23), none, 0, []⟩,
    ⟨(some 173), .bin .add (.t 172) (.c (.s (.int .i64 1))), none, 1, []⟩,
    ⟨(some 20), .move (.t 173), none, 2, []⟩]) (RC.region 2 [
    ⟨(some 174), .move (.t 23), none, 0, []⟩,
    ⟨(some 21), .move (.t 174), none, 1, []⟩])))))
def slices_symMergeCmpFunc_cyc_Fired_s9 : RC :=
  RC.seq (RC.region 8 [
    ⟨(some 206), .move (.t 18), none, 0, []⟩,
    ⟨(some 207), .move (.t 24), none, 1, []⟩,
    ⟨(some 208), .bin .lss (.t 206) (.t 207), none, 2, []⟩,
    ⟨(some 209), .move (.t 208), none, 3, []⟩,
    ⟨(some 210), .move (.t 24), (some (209, true)), 4, []⟩,
    ⟨(some 211), .move (.t 3), (some (209, true)), 5, []⟩,
    ⟨(some 212), .bin .lss (.t 210) (.t 211), (some (209, true)), 6, []⟩,
    ⟨(some 213), .pick (.t 209) (.t 212) (.c (.s (.bool false))), none, 7, []⟩]) (RC.cond (.t 213) (RC.region 6 [
    ⟨(some 214), .move (.t 0), none, 0, []⟩,
    ⟨(some 215), .move (.t 18), none, 1, []⟩,
    ⟨(some 216), .move (.t 24), none, 2, []⟩,
    ⟨(some 217), .move (.t 3), none, 3, []⟩,
    ⟨(some 218), .move (.t 4), none, 4, []⟩,
    ⟨(some 219), .call F.slices_symMergeCmpFunc_cyc_Fired [(.t 214), (.t 215), (.t 216), (.t 217), (.t 218)], none, 5, []⟩]) (RC.skip))
def slices_symMergeCmpFunc_cyc_Fired_s10 : RC :=
  RC.seq (RC.seq (RC.region 8 [
    ⟨(some 192), .move (.t 1), none, 0, []⟩,
    ⟨(some 193), .move (.t 20), none, 1, []⟩,
    ⟨(some 194), .bin .lss (.t 192) (.t 193), none, 2, []⟩,
    ⟨(some 195), .move (.t 194), none, 3, []⟩,
    ⟨(some 196), .move (.t 20), (some (195, true)), 4, []⟩,
    ⟨(some 197), .move (.t 18), (some (195, true)), 5, []⟩,
    ⟨(some 198), .bin .lss (.t 196) (.t 197), (some (195, true)), 6, []⟩,
    ⟨(some 199), .pick (.t 195) (.t 198) (.c (.s (.bool false))), none, 7, []⟩]) (RC.cond (.t 199) (RC.region 6 [
    ⟨(some 200), .move (.t 0), none, 0, []⟩,
    ⟨(some 201), .move (.t 1), none, 1, []⟩,
    ⟨(some 202), .move (.t 20), none, 2, []⟩,
    ⟨(some 203), .move (.t 18), none, 3, []⟩,
    ⟨(some 204), .move (.t 4), none, 4, []⟩,
    ⟨(some 205), .call F.slices_symMergeCmpFunc_cyc_Fired [(.t 200), (.t 201), (.t 202), (.t 203), (.t 204)], none, 5, []⟩]) (RC.skip))) R.slices_symMergeCmpFunc_cyc_Fired_s9
def slices_symMergeCmpFunc_cyc_Fired_s11 : RC :=
  RC.seq (RC.region 4 [
    ⟨(some 175), .move (.t 19), none, 0, []⟩,
    ⟨(some 176), .move (.t 20), none, 1, []⟩,
    ⟨(some 177), .bin .sub (.t 175) (.t 176), none, 2, []⟩,
    ⟨(some 24), .move (.t 177), none, 3, []⟩]) (RC.seq (RC.seq (RC.region 8 [
    ⟨(some 178), .move (.t 20), none, 0, []⟩,
    ⟨(some 179), .move (.t 2), none, 1, []⟩,
    ⟨(some 180), .bin .lss (.t 178) (.t 179), none, 2, []⟩,
    ⟨(some 181), .move (.t 180), none, 3, []⟩,
    ⟨(some 182), .move (.t 2), (some (181, true)), 4, []⟩,
    ⟨(some 183), .move (.t 24), (some (181, true)), 5, []⟩,
    ⟨(some 184), .bin .lss (.t 182) (.t 183), (some (181, true)), 6, []⟩,
    ⟨(some 185), .pick (.t 181) (.t 184) (.c (.s (.bool false))), none, 7, []⟩]) (RC.cond (.t 185) (RC.region 6 [
    ⟨(some 186), .move (.t 0), none, 0, []⟩,
    ⟨(some 187), .move (.t 20), none, 1, []⟩,
    ⟨(some 188), .move (.t 2), none, 2, []⟩,
    ⟨(some 189), .move (.t 24), none, 3, []⟩,
    ⟨(some 190), .move (.t 4), none, 4, []⟩,
    ⟨(some 191), .call F.slices_rotateCmpFunc_cyc_Fired [(.t 186), (.t 187), (.t 188), (.t 189), (.t 190)], none, 5, []⟩]) (RC.skip))) R.slices_symMergeCmpFunc_cyc_Fired_s10)
def slices_symMergeCmpFunc_cyc_Fired_s12 : RC :=
  RC.seq (RC.region 3 [
    ⟨(some 147), .move (.t 19), none, 0, []⟩,
    ⟨(some 148), .bin .sub (.t 147) (.c (.s (.int .i64 1))), none, 1, []⟩,
    ⟨(some 22), .move (.t 148), none, 2, []⟩]) (RC.seq (RC.block 8 (RC.loop R.slices_symMergeCmpFunc_cyc_Fired_l8)) R.slices_symMergeCmpFunc_cyc_Fired_s11)
def slices_symMergeCmpFunc_cyc_Fired_s13 : RC :=
  RC.seq (RC.region 7 [
    ⟨(some 129), .move (.t 1), none, 0, []⟩,
    ⟨(some 130), .move (.t 3), none, 1, []⟩,
    ⟨(some 131), .bin .add (.t 129) (.t 130), none, 2, []⟩,
    ⟨(some 132), .conv .u64 (.t 131), none, 3, []⟩,
    ⟨(some 133), .bin .shr (.t 132) (.c (.s (.int .u64 1))), none, 4, []⟩,
    ⟨(some 134), .conv .i64 (.t 133), none, 5, []⟩,
    ⟨(some 18), .move (.t 134), none, 6, []⟩]) (RC.seq (RC.region 4 [
    ⟨(some 135), .move (.t 18), none, 0, []⟩,
    ⟨(some 136), .move (.t 2), none, 1, []⟩,
    ⟨(some 137), .bin .add (.t 135) (.t 136), none, 2, []⟩,
    ⟨(some 19), .move (.t 137), none, 3, []⟩]) (RC.seq (RC.region 2 [
    ⟨(some 20), .move (.c (.s (.int .i64 0))), none, 0, []⟩,
    ⟨(some 21), .move (.c (.s (.int .i64 0))), none, 1, []⟩]) (RC.seq (RC.seq (RC.region 3 [
    ⟨(some 138), .move (.t 2), none, 0, []⟩,
    ⟨(some 139), .move (.t 18), none, 1, []⟩,
    ⟨(some 140), .bin .gtr (.t 138) (.t 139), none, 2, []⟩]) (RC.cond (.t 140) (RC.seq (RC.region 4 [
    ⟨(some 141), .move (.t 19), none, 0, []⟩,
    ⟨(some 142), .move (.t 3), none, 1, []⟩,
    ⟨(some 143), .bin .sub (.t 141) (.t 142), none, 2, []⟩,
    ⟨(some 20), .move (.t 143), none, 3, []⟩]) (RC.region 2 [
    ⟨(some 144), .move (.t 18), none, 0, []⟩,
    ⟨(some 21), .move (.t 144), none, 1, []⟩])) (RC.seq (RC.region 2 [
    ⟨(some 145), .move (.t 1), none, 0, []⟩,
    ⟨(some 20), .move (.t 145), none, 1, []⟩]) (RC.region 2 [
    ⟨(some 146), .move (.t 2), none, 0, []⟩,
    ⟨(some 21), .move (.t 146), none, 1, []⟩])))) R.slices_symMergeCmpFunc_cyc_Fired_s12)))
def slices_symMergeCmpFunc_cyc_Fired_s14 : RC :=
  RC.seq (RC.seq (RC.region 4 [
    ⟨(some 77), .move (.t 3), none, 0, []⟩,
    ⟨(some 78), .move (.t 2), none, 1, []⟩,
    ⟨(some 79), .bin .sub (.t 77) (.t 78), none, 2, []⟩,
    ⟨(some 80), .bin .eql (.t 79) (.c (.s (.int .i64 1))), none, 3, []⟩]) (RC.cond (.t 80) (RC.seq (RC.region 2 [
    ⟨(some 81), .move (.t 1), none, 0, []⟩,
    ⟨(some 14), .move (.t 81), none, 1, []⟩]) (RC.seq (RC.region 2 [
    ⟨(some 82), .move (.t 2), none, 0, []⟩,
    ⟨(some 15), .move (.t 82), none, 1, []⟩]) (RC.seq (RC.block 4 (RC.loop R.slices_symMergeCmpFunc_cyc_Fired_l4)) R.slices_symMergeCmpFunc_cyc_Fired_s7))) (RC.skip))) R.slices_symMergeCmpFunc_cyc_Fired_s13
def slices_symMergeCmpFunc_cyc_Fired : RFunc := RFunc.mk 220 [] (
  RC.seq (RC.seq (RC.region 4 [
    ⟨(some 25), .move (.t 2), none, 0, []⟩,
    ⟨(some 26), .move (.t 1), none, 1, []⟩,
    ⟨(some 27), .bin .sub (.t 25) (.t 26), none, 2, []⟩,
    ⟨(some 28), .bin .eql (.t 27) (.c (.s (.int .i64 1))), none, 3, []⟩]) (RC.cond (.t 28) (RC.seq (RC.region 2 [
    ⟨(some 29), .move (.t 2), none, 0, []⟩,
    ⟨(some 10), .move (.t 29), none, 1, []⟩]) (RC.seq (RC.region 2 [
    ⟨(some 30), .move (.t 3), none, 0, []⟩,
    ⟨(some 11), .move (.t 30), none, 1, []⟩]) (RC.seq (RC.block 0 (RC.loop R.slices_symMergeCmpFunc_cyc_Fired_l0)) R.slices_symMergeCmpFunc_cyc_Fired_s3))) (RC.skip))) R.slices_symMergeCmpFunc_cyc_Fired_s14)
theorem slices_symMergeCmpFunc_cyc_Fired_ok : chkFunc Go.Proofs.Tryz.prog [0] Go.Proofs.Tryz.f212 slices_symMergeCmpFunc_cyc_Fired = true := by kernel_rfl
def cmp_isNaN_uint64 : RFunc := RFunc.mk 6 [.tmp 2] (
  RC.seq (RC.region 1 [
    ⟨(some 2), .move (.c (.s (.bool false))), none, 0, []⟩]) (RC.seq (RC.region 4 [
    ⟨(some 3), .move (.t 0), none, 0, []⟩,
    ⟨(some 4), .move (.t 0), none, 1, []⟩,
    ⟨(some 5), .bin .neq (.t 3) (.t 4), none, 2, []⟩,
    ⟨(some 2), .move (.t 5), none, 3, []⟩]) (RC.ret)))
theorem cmp_isNaN_uint64_ok : chkFunc Go.Proofs.Tryz.prog [0] Go.Proofs.Tryz.f213 cmp_isNaN_uint64 = true := by kernel_rfl
def cmp_isNaN_int : RFunc := RFunc.mk 6 [.tmp 2] (
  RC.seq (RC.region 1 [
    ⟨(some 2), .move (.c (.s (.bool false))), none, 0, []⟩]) (RC.seq (RC.region 4 [
    ⟨(some 3), .move (.t 0), none, 0, []⟩,
    ⟨(some 4), .move (.t 0), none, 1, []⟩,
    ⟨(some 5), .bin .neq (.t 3) (.t 4), none, 2, []⟩,
    ⟨(some 2), .move (.t 5), none, 3, []⟩]) (RC.ret)))
theorem cmp_isNaN_int_ok : chkFunc Go.Proofs.Tryz.prog [0] Go.Proofs.Tryz.f214 cmp_isNaN_int = true := by kernel_rfl
end Go.AM.R
