/- HistoryOf's walk, and how its arguments are opened. -/
import Derived.Test.YtmpkcmgdamfaaaaOf
import Derived.Test.YtmpkcmgdamfaaaaArgs
