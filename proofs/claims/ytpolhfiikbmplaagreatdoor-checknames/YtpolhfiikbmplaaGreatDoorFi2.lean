/-
MADE BY PROGRAM (GenFI.lean): what the functions of the dump name, part 2.
-/
import Derived.Test.YtpolhfiikbmplaaGreatDoorProg
import Derived.Test.YtpolhfiikbmplaaGreatDoorFi
import Derived.KernelRfl
namespace Go.Ev
open Go.Proofs
theorem fi334 : fiOf Tryz.prog Tryz.f334 = ⟨[425, 190, 283, 427, 268, 336], none, [], false, none, false⟩ := by kernel_rfl
theorem fi335 : fiOf Tryz.prog Tryz.f335 = ⟨[428, 428, 190, 429, 268, 430, 431, 432, 433, 336, 433], none, [], false, none, false⟩ := by kernel_rfl
theorem fi336 : fiOf Tryz.prog Tryz.f336 = ⟨[279, 268], none, [], false, none, false⟩ := by kernel_rfl
theorem fi337 : fiOf Tryz.prog Tryz.f337 = ⟨[], none, [], false, none, false⟩ := by kernel_rfl
theorem fi338 : fiOf Tryz.prog Tryz.f338 = ⟨[336, 337, 337, 336, 337, 337], none, [], false, none, false⟩ := by kernel_rfl
theorem fi339 : fiOf Tryz.prog Tryz.f339 = ⟨[336, 337, 337, 337, 337, 337, 337, 337, 337, 337, 337, 337, 337, 337, 337, 337, 337, 337, 337, 337], none, [], false, none, false⟩ := by kernel_rfl
theorem fi340 : fiOf Tryz.prog Tryz.f340 = ⟨[345, 434], none, [], false, none, false⟩ := by kernel_rfl
theorem fi341 : fiOf Tryz.prog Tryz.f341 = ⟨[345, 282], none, [], false, none, false⟩ := by kernel_rfl
theorem fi342 : fiOf Tryz.prog Tryz.f342 = ⟨[], none, [], false, none, false⟩ := by kernel_rfl
theorem fi343 : fiOf Tryz.prog Tryz.f343 = ⟨[], none, [], false, none, false⟩ := by kernel_rfl
theorem fi344 : fiOf Tryz.prog Tryz.f344 = ⟨[106, 225, 435], none, [], false, none, false⟩ := by kernel_rfl
theorem fi345 : fiOf Tryz.prog Tryz.f345 = ⟨[189, 189, 280], none, [], true, none, false⟩ := by kernel_rfl
theorem fi346 : fiOf Tryz.prog Tryz.f346 = ⟨[365, 365, 365, 436, 294, 366, 437, 294, 437, 294], none, [], false, none, false⟩ := by kernel_rfl
theorem fi347 : fiOf Tryz.prog Tryz.f347 = ⟨[], none, [], false, none, false⟩ := by kernel_rfl
theorem fi348 : fiOf Tryz.prog Tryz.f348 = ⟨[275], none, [], false, none, false⟩ := by kernel_rfl
theorem fi349 : fiOf Tryz.prog Tryz.f349 = ⟨[349], none, [], false, none, false⟩ := by kernel_rfl
theorem fi350 : fiOf Tryz.prog Tryz.f350 = ⟨[352, 352], none, [], false, none, false⟩ := by kernel_rfl
theorem fi351 : fiOf Tryz.prog Tryz.f351 = ⟨[], none, [], false, none, false⟩ := by kernel_rfl
theorem fi352 : fiOf Tryz.prog Tryz.f352 = ⟨[291, 291], none, [], false, none, false⟩ := by kernel_rfl
theorem fi353 : fiOf Tryz.prog Tryz.f353 = ⟨[438, 439], none, [], false, none, false⟩ := by kernel_rfl
theorem fi354 : fiOf Tryz.prog Tryz.f354 = ⟨[354, 104, 354, 354, 354, 440, 441], none, [], false, none, false⟩ := by kernel_rfl
theorem fi355 : fiOf Tryz.prog Tryz.f355 = ⟨[], none, [], false, none, false⟩ := by kernel_rfl
theorem fi356 : fiOf Tryz.prog Tryz.f356 = ⟨[291, 291], none, [], false, none, false⟩ := by kernel_rfl
theorem fi357 : fiOf Tryz.prog Tryz.f357 = ⟨[407, 442], none, [], false, none, false⟩ := by kernel_rfl
theorem fi358 : fiOf Tryz.prog Tryz.f358 = ⟨[407, 443], none, [], false, none, false⟩ := by kernel_rfl
theorem fi359 : fiOf Tryz.prog Tryz.f359 = ⟨[], none, [], false, none, false⟩ := by kernel_rfl
theorem fi360 : fiOf Tryz.prog Tryz.f360 = ⟨[270], none, [], false, none, false⟩ := by kernel_rfl
theorem fi361 : fiOf Tryz.prog Tryz.f361 = ⟨[270], none, [], false, none, false⟩ := by kernel_rfl
theorem fi362 : fiOf Tryz.prog Tryz.f362 = ⟨[], none, [], false, none, false⟩ := by kernel_rfl
theorem fi363 : fiOf Tryz.prog Tryz.f363 = ⟨[446, 447], none, [], true, none, false⟩ := by kernel_rfl
theorem fi364 : fiOf Tryz.prog Tryz.f364 = ⟨[], none, [], false, none, false⟩ := by kernel_rfl
theorem fi365 : fiOf Tryz.prog Tryz.f365 = ⟨[292], none, [], false, none, false⟩ := by kernel_rfl
theorem fi366 : fiOf Tryz.prog Tryz.f366 = ⟨[], none, [], false, none, false⟩ := by kernel_rfl
theorem fi367 : fiOf Tryz.prog Tryz.f367 = ⟨[], none, [], true, none, false⟩ := by kernel_rfl
theorem fi368 : fiOf Tryz.prog Tryz.f368 = ⟨[255, 98, 368], none, [], false, none, false⟩ := by kernel_rfl
theorem fi369 : fiOf Tryz.prog Tryz.f369 = ⟨[], none, [], true, none, false⟩ := by kernel_rfl
theorem fi370 : fiOf Tryz.prog Tryz.f370 = ⟨[], none, [], false, none, false⟩ := by kernel_rfl
theorem fi371 : fiOf Tryz.prog Tryz.f371 = ⟨[448], none, [], false, none, false⟩ := by kernel_rfl
theorem fi372 : fiOf Tryz.prog Tryz.f372 = ⟨[], none, [], false, none, false⟩ := by kernel_rfl
theorem fi373 : fiOf Tryz.prog Tryz.f373 = ⟨[450, 449], none, [], false, none, false⟩ := by kernel_rfl
theorem fi374 : fiOf Tryz.prog Tryz.f374 = ⟨[], none, [], false, none, false⟩ := by kernel_rfl
theorem fi375 : fiOf Tryz.prog Tryz.f375 = ⟨[256], none, [], true, none, false⟩ := by kernel_rfl
theorem fi376 : fiOf Tryz.prog Tryz.f376 = ⟨[], none, [], true, none, false⟩ := by kernel_rfl
theorem fi377 : fiOf Tryz.prog Tryz.f377 = ⟨[452], none, [], false, none, false⟩ := by kernel_rfl
theorem fi378 : fiOf Tryz.prog Tryz.f378 = ⟨[292], none, [], false, none, false⟩ := by kernel_rfl
theorem fi379 : fiOf Tryz.prog Tryz.f379 = ⟨[180], none, [], false, none, false⟩ := by kernel_rfl
theorem fi380 : fiOf Tryz.prog Tryz.f380 = ⟨[381], none, [], false, none, false⟩ := by kernel_rfl
theorem fi381 : fiOf Tryz.prog Tryz.f381 = ⟨[366, 453, 293, 454, 455, 455, 456, 292, 292, 378], none, [], false, none, false⟩ := by kernel_rfl
theorem fi382 : fiOf Tryz.prog Tryz.f382 = ⟨[], none, [], false, none, false⟩ := by kernel_rfl
theorem fi383 : fiOf Tryz.prog Tryz.f383 = ⟨[], none, [], false, none, false⟩ := by kernel_rfl
theorem fi384 : fiOf Tryz.prog Tryz.f384 = ⟨[], none, [], false, none, false⟩ := by kernel_rfl
theorem fi385 : fiOf Tryz.prog Tryz.f385 = ⟨[], none, [], false, none, false⟩ := by kernel_rfl
theorem fi386 : fiOf Tryz.prog Tryz.f386 = ⟨[457, 458], none, [], false, none, false⟩ := by kernel_rfl
theorem fi387 : fiOf Tryz.prog Tryz.f387 = ⟨[459, 460], none, [], false, none, false⟩ := by kernel_rfl
theorem fi388 : fiOf Tryz.prog Tryz.f388 = ⟨[461], none, [], false, none, false⟩ := by kernel_rfl
theorem fi389 : fiOf Tryz.prog Tryz.f389 = ⟨[], none, [], true, none, false⟩ := by kernel_rfl
theorem fi390 : fiOf Tryz.prog Tryz.f390 = ⟨[], none, [], false, none, false⟩ := by kernel_rfl
theorem fi391 : fiOf Tryz.prog Tryz.f391 = ⟨[], none, [], true, none, false⟩ := by kernel_rfl
theorem fi392 : fiOf Tryz.prog Tryz.f392 = ⟨[], none, [], false, none, false⟩ := by kernel_rfl
theorem fi393 : fiOf Tryz.prog Tryz.f393 = ⟨[], none, [], false, none, false⟩ := by kernel_rfl
theorem fi394 : fiOf Tryz.prog Tryz.f394 = ⟨[116, 102, 186, 101], none, [], false, none, false⟩ := by kernel_rfl
theorem fi395 : fiOf Tryz.prog Tryz.f395 = ⟨[463, 462], none, [], false, none, false⟩ := by kernel_rfl
theorem fi396 : fiOf Tryz.prog Tryz.f396 = ⟨[317, 358], none, [], false, none, false⟩ := by kernel_rfl
theorem fi397 : fiOf Tryz.prog Tryz.f397 = ⟨[317, 327], none, [], false, none, false⟩ := by kernel_rfl
theorem fi398 : fiOf Tryz.prog Tryz.f398 = ⟨[465, 466], none, [], false, none, false⟩ := by kernel_rfl
theorem fi399 : fiOf Tryz.prog Tryz.f399 = ⟨[152, 467], none, [], true, none, false⟩ := by kernel_rfl
theorem fi400 : fiOf Tryz.prog Tryz.f400 = ⟨[373, 445], none, [], false, none, false⟩ := by kernel_rfl
theorem fi401 : fiOf Tryz.prog Tryz.f401 = ⟨[373, 468], none, [], false, none, false⟩ := by kernel_rfl
theorem fi402 : fiOf Tryz.prog Tryz.f402 = ⟨[469, 470], none, [], false, none, false⟩ := by kernel_rfl
theorem fi403 : fiOf Tryz.prog Tryz.f403 = ⟨[469, 471], none, [], false, none, false⟩ := by kernel_rfl
theorem fi404 : fiOf Tryz.prog Tryz.f404 = ⟨[407, 444], none, [], false, none, false⟩ := by kernel_rfl
theorem fi405 : fiOf Tryz.prog Tryz.f405 = ⟨[472, 373], none, [], false, none, false⟩ := by kernel_rfl
theorem fi406 : fiOf Tryz.prog Tryz.f406 = ⟨[475, 373], none, [], false, none, false⟩ := by kernel_rfl
theorem fi407 : fiOf Tryz.prog Tryz.f407 = ⟨[480, 469], none, [], false, none, false⟩ := by kernel_rfl
theorem fi408 : fiOf Tryz.prog Tryz.f408 = ⟨[481, 481, 482, 262, 483], none, [], false, none, false⟩ := by kernel_rfl
theorem fi409 : fiOf Tryz.prog Tryz.f409 = ⟨[410, 410, 411, 362, 413, 412, 414, 412, 414], none, [], false, none, false⟩ := by kernel_rfl
theorem fi410 : fiOf Tryz.prog Tryz.f410 = ⟨[362], none, [], false, none, false⟩ := by kernel_rfl
theorem fi411 : fiOf Tryz.prog Tryz.f411 = ⟨[254], none, [], false, none, false⟩ := by kernel_rfl
theorem fi412 : fiOf Tryz.prog Tryz.f412 = ⟨[279, 262, 254, 445, 279, 426, 360, 427, 427, 427], none, [], false, none, false⟩ := by kernel_rfl
theorem fi413 : fiOf Tryz.prog Tryz.f413 = ⟨[279, 279, 283, 283], none, [], false, none, false⟩ := by kernel_rfl
theorem fi414 : fiOf Tryz.prog Tryz.f414 = ⟨[484, 484], none, [], false, none, false⟩ := by kernel_rfl
theorem fi415 : fiOf Tryz.prog Tryz.f415 = ⟨[438, 426], none, [], false, none, false⟩ := by kernel_rfl
theorem fi416 : fiOf Tryz.prog Tryz.f416 = ⟨[395, 485], none, [], false, none, false⟩ := by kernel_rfl
theorem fi417 : fiOf Tryz.prog Tryz.f417 = ⟨[341, 341, 238, 485], none, [], false, none, false⟩ := by kernel_rfl
theorem fi418 : fiOf Tryz.prog Tryz.f418 = ⟨[486, 486, 314, 317, 358, 209], none, [], false, none, false⟩ := by kernel_rfl
theorem fi419 : fiOf Tryz.prog Tryz.f419 = ⟨[487, 487, 209], none, [], false, none, false⟩ := by kernel_rfl
theorem fi420 : fiOf Tryz.prog Tryz.f420 = ⟨[410, 414], none, [], false, none, false⟩ := by kernel_rfl
theorem fi421 : fiOf Tryz.prog Tryz.f421 = ⟨[488, 488, 489], none, [], false, none, false⟩ := by kernel_rfl
theorem fi422 : fiOf Tryz.prog Tryz.f422 = ⟨[490], none, [], false, none, false⟩ := by kernel_rfl
theorem fi423 : fiOf Tryz.prog Tryz.f423 = ⟨[424], none, [], false, none, false⟩ := by kernel_rfl
theorem fi424 : fiOf Tryz.prog Tryz.f424 = ⟨[424], none, [], true, none, false⟩ := by kernel_rfl
theorem fi425 : fiOf Tryz.prog Tryz.f425 = ⟨[189, 426], none, [], false, none, false⟩ := by kernel_rfl
theorem fi426 : fiOf Tryz.prog Tryz.f426 = ⟨[281], none, [], false, none, false⟩ := by kernel_rfl
theorem fi427 : fiOf Tryz.prog Tryz.f427 = ⟨[491, 491], none, [], false, none, false⟩ := by kernel_rfl
theorem fi428 : fiOf Tryz.prog Tryz.f428 = ⟨[425], none, [], false, none, false⟩ := by kernel_rfl
theorem fi429 : fiOf Tryz.prog Tryz.f429 = ⟨[346, 426, 346, 282, 283, 282], none, [], false, none, false⟩ := by kernel_rfl
theorem fi430 : fiOf Tryz.prog Tryz.f430 = ⟨[433, 433, 337], none, [], false, none, false⟩ := by kernel_rfl
theorem fi431 : fiOf Tryz.prog Tryz.f431 = ⟨[433, 433, 337, 333, 337], none, [], false, none, false⟩ := by kernel_rfl
theorem fi432 : fiOf Tryz.prog Tryz.f432 = ⟨[433, 433, 336, 433, 433, 433, 337, 333], none, [], false, none, false⟩ := by kernel_rfl
theorem fi433 : fiOf Tryz.prog Tryz.f433 = ⟨[279, 270], none, [], false, none, false⟩ := by kernel_rfl
theorem fi434 : fiOf Tryz.prog Tryz.f434 = ⟨[426, 346], none, [], false, none, false⟩ := by kernel_rfl
theorem fi435 : fiOf Tryz.prog Tryz.f435 = ⟨[492, 435], none, [], false, none, false⟩ := by kernel_rfl
theorem fi436 : fiOf Tryz.prog Tryz.f436 = ⟨[292], none, [], false, none, false⟩ := by kernel_rfl
theorem fi437 : fiOf Tryz.prog Tryz.f437 = ⟨[292], none, [], false, none, false⟩ := by kernel_rfl
theorem fi438 : fiOf Tryz.prog Tryz.f438 = ⟨[189, 280], none, [], true, none, false⟩ := by kernel_rfl
theorem fi439 : fiOf Tryz.prog Tryz.f439 = ⟨[], none, [], false, none, false⟩ := by kernel_rfl
theorem fi440 : fiOf Tryz.prog Tryz.f440 = ⟨[415, 493, 494, 493, 495, 493, 496, 497], none, [], false, none, false⟩ := by kernel_rfl
theorem fi441 : fiOf Tryz.prog Tryz.f441 = ⟨[238, 493, 340, 493, 341, 493, 169, 493, 255], none, [], false, none, false⟩ := by kernel_rfl
theorem fi442 : fiOf Tryz.prog Tryz.f442 = ⟨[411, 362, 413, 408], none, [], false, none, false⟩ := by kernel_rfl
theorem fi443 : fiOf Tryz.prog Tryz.f443 = ⟨[445, 444], none, [], false, none, false⟩ := by kernel_rfl
theorem fi444 : fiOf Tryz.prog Tryz.f444 = ⟨[346, 346], none, [], false, none, false⟩ := by kernel_rfl
theorem fi445 : fiOf Tryz.prog Tryz.f445 = ⟨[426, 426], none, [], false, none, false⟩ := by kernel_rfl
theorem fi446 : fiOf Tryz.prog Tryz.f446 = ⟨[], none, [], false, none, false⟩ := by kernel_rfl
theorem fi447 : fiOf Tryz.prog Tryz.f447 = ⟨[189, 498, 447, 499, 447, 447, 499, 447, 447, 499, 447, 447, 500, 447, 447, 501, 500, 447, 501, 279, 498, 500, 503, 502], none, [], false, none, false⟩ := by kernel_rfl
theorem fi448 : fiOf Tryz.prog Tryz.f448 = ⟨[], none, [], false, none, false⟩ := by kernel_rfl
theorem fi449 : fiOf Tryz.prog Tryz.f449 = ⟨[504], none, [], true, none, false⟩ := by kernel_rfl
theorem fi450 : fiOf Tryz.prog Tryz.f450 = ⟨[253, 451], none, [], true, none, false⟩ := by kernel_rfl
theorem fi451 : fiOf Tryz.prog Tryz.f451 = ⟨[279, 280, 464, 280, 464, 280, 464], none, [], false, none, false⟩ := by kernel_rfl
theorem fi452 : fiOf Tryz.prog Tryz.f452 = ⟨[], none, [0], false, none, false⟩ := by kernel_rfl
theorem fi453 : fiOf Tryz.prog Tryz.f453 = ⟨[292], none, [], false, none, false⟩ := by kernel_rfl
theorem fi454 : fiOf Tryz.prog Tryz.f454 = ⟨[180], none, [], false, none, false⟩ := by kernel_rfl
theorem fi455 : fiOf Tryz.prog Tryz.f455 = ⟨[292], none, [], false, none, false⟩ := by kernel_rfl
theorem fi456 : fiOf Tryz.prog Tryz.f456 = ⟨[], none, [], false, none, false⟩ := by kernel_rfl
theorem fi457 : fiOf Tryz.prog Tryz.f457 = ⟨[], none, [], false, none, false⟩ := by kernel_rfl
theorem fi458 : fiOf Tryz.prog Tryz.f458 = ⟨[], none, [], false, none, false⟩ := by kernel_rfl
theorem fi459 : fiOf Tryz.prog Tryz.f459 = ⟨[505], none, [], false, none, false⟩ := by kernel_rfl
theorem fi460 : fiOf Tryz.prog Tryz.f460 = ⟨[90, 506], none, [], false, none, false⟩ := by kernel_rfl
theorem fi461 : fiOf Tryz.prog Tryz.f461 = ⟨[], none, [], true, none, false⟩ := by kernel_rfl
theorem fi462 : fiOf Tryz.prog Tryz.f462 = ⟨[507], none, [], true, none, false⟩ := by kernel_rfl
theorem fi463 : fiOf Tryz.prog Tryz.f463 = ⟨[253, 362, 279, 279, 346, 279, 346, 346, 455, 294, 280, 464], none, [], false, none, false⟩ := by kernel_rfl
theorem fi464 : fiOf Tryz.prog Tryz.f464 = ⟨[362], none, [], false, none, false⟩ := by kernel_rfl
theorem fi465 : fiOf Tryz.prog Tryz.f465 = ⟨[508, 512, 512, 437, 437], none, [], true, none, false⟩ := by kernel_rfl
theorem fi466 : fiOf Tryz.prog Tryz.f466 = ⟨[378, 513, 514, 513], none, [], false, none, false⟩ := by kernel_rfl
theorem fi467 : fiOf Tryz.prog Tryz.f467 = ⟨[469, 483], none, [], false, none, false⟩ := by kernel_rfl
theorem fi468 : fiOf Tryz.prog Tryz.f468 = ⟨[254, 445, 279, 426, 360], none, [], false, none, false⟩ := by kernel_rfl
theorem fi469 : fiOf Tryz.prog Tryz.f469 = ⟨[515, 449], none, [], false, none, false⟩ := by kernel_rfl
theorem fi470 : fiOf Tryz.prog Tryz.f470 = ⟨[361, 361], none, [], false, none, false⟩ := by kernel_rfl
theorem fi471 : fiOf Tryz.prog Tryz.f471 = ⟨[445, 445, 470, 445], none, [], false, none, false⟩ := by kernel_rfl
theorem fi472 : fiOf Tryz.prog Tryz.f472 = ⟨[410, 410, 254, 362, 280, 464, 473, 464, 263, 280, 464, 474, 464, 263], none, [], false, none, false⟩ := by kernel_rfl
theorem fi473 : fiOf Tryz.prog Tryz.f473 = ⟨[516], none, [], false, none, false⟩ := by kernel_rfl
theorem fi474 : fiOf Tryz.prog Tryz.f474 = ⟨[516], none, [], false, none, false⟩ := by kernel_rfl
theorem fi475 : fiOf Tryz.prog Tryz.f475 = ⟨[410, 410, 476, 477, 477, 478, 479], none, [], false, none, false⟩ := by kernel_rfl
theorem fi476 : fiOf Tryz.prog Tryz.f476 = ⟨[167, 263, 167, 263, 254, 270, 270, 362], none, [], false, none, false⟩ := by kernel_rfl
theorem fi477 : fiOf Tryz.prog Tryz.f477 = ⟨[167, 263, 167, 263, 517, 361, 360, 518, 518], none, [], false, none, false⟩ := by kernel_rfl
theorem fi478 : fiOf Tryz.prog Tryz.f478 = ⟨[517, 518, 518, 362], none, [], false, none, false⟩ := by kernel_rfl
theorem fi479 : fiOf Tryz.prog Tryz.f479 = ⟨[517, 398, 519, 263, 455, 262, 414, 426, 263], none, [], false, none, false⟩ := by kernel_rfl
theorem fi480 : fiOf Tryz.prog Tryz.f480 = ⟨[410, 414], none, [], true, none, false⟩ := by kernel_rfl
theorem fi481 : fiOf Tryz.prog Tryz.f481 = ⟨[], none, [], false, none, false⟩ := by kernel_rfl
theorem fi482 : fiOf Tryz.prog Tryz.f482 = ⟨[190, 190, 279, 282], none, [], false, none, false⟩ := by kernel_rfl
theorem fi483 : fiOf Tryz.prog Tryz.f483 = ⟨[361, 360], none, [], false, none, false⟩ := by kernel_rfl
theorem fi484 : fiOf Tryz.prog Tryz.f484 = ⟨[455, 381, 281, 293, 436, 293, 455, 294], none, [], false, none, false⟩ := by kernel_rfl
theorem fi485 : fiOf Tryz.prog Tryz.f485 = ⟨[520], none, [], false, none, false⟩ := by kernel_rfl
theorem fi486 : fiOf Tryz.prog Tryz.f486 = ⟨[317, 315], none, [], false, none, false⟩ := by kernel_rfl
theorem fi487 : fiOf Tryz.prog Tryz.f487 = ⟨[167, 317, 317, 209], none, [], false, none, false⟩ := by kernel_rfl
theorem fi488 : fiOf Tryz.prog Tryz.f488 = ⟨[], none, [], false, none, false⟩ := by kernel_rfl
theorem fi489 : fiOf Tryz.prog Tryz.f489 = ⟨[], none, [], false, none, false⟩ := by kernel_rfl
theorem fi490 : fiOf Tryz.prog Tryz.f490 = ⟨[521], none, [], false, none, false⟩ := by kernel_rfl
theorem fi491 : fiOf Tryz.prog Tryz.f491 = ⟨[293, 365, 365], none, [], false, none, false⟩ := by kernel_rfl
theorem fi492 : fiOf Tryz.prog Tryz.f492 = ⟨[492, 492, 522, 425, 372, 492], none, [], false, none, false⟩ := by kernel_rfl
theorem fi493 : fiOf Tryz.prog Tryz.f493 = ⟨[], none, [], false, none, false⟩ := by kernel_rfl
theorem fi494 : fiOf Tryz.prog Tryz.f494 = ⟨[189, 281, 283, 427, 280], none, [], false, none, false⟩ := by kernel_rfl
theorem fi495 : fiOf Tryz.prog Tryz.f495 = ⟨[438, 523], none, [], false, none, false⟩ := by kernel_rfl
theorem fi496 : fiOf Tryz.prog Tryz.f496 = ⟨[189, 524, 524, 280], none, [], false, none, false⟩ := by kernel_rfl
theorem fi497 : fiOf Tryz.prog Tryz.f497 = ⟨[525, 526], none, [], false, none, false⟩ := by kernel_rfl
theorem fi498 : fiOf Tryz.prog Tryz.f498 = ⟨[527], none, [], false, none, false⟩ := by kernel_rfl
theorem fi499 : fiOf Tryz.prog Tryz.f499 = ⟨[528, 279, 282, 527], none, [], false, none, false⟩ := by kernel_rfl
theorem fi500 : fiOf Tryz.prog Tryz.f500 = ⟨[282, 529, 527], none, [], false, none, false⟩ := by kernel_rfl
end Go.Ev
